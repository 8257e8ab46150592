/- Words on the way, with the place of labels of index 2 and above: a sharper bound of their length. Printed by gen_wayc.py. No program. -/
import Derived.Test.YtnmklkjlcpgjmaaQTopWordProblem0
import Derived.Test.YtnmklkjlcpgjmaaQTopWordProblem1
import Derived.Test.YtnmklkjlcpgjmaaQTopWordProblem2
import Derived.Test.YtnmklkjlcpgjmaaQTopWordProblem5
import Derived.Test.YtnmklkjlcpgjmaaQTopWordProblem7
import Derived.Test.YtnmklkjlcpgjmaaQTopWordProblem11
import Derived.Test.YtnmklkjlcpgjmaaQTopWordProblem12
import Derived.Lib.SliceRun
import Derived.ArgAppend
namespace Go.Proofs.Ytnmklkjlcpgjmaa
open Go.RowKit Go.Sl

section
variable {n l : Nat} {A B : List Int} {X : List (List Int)}
theorem fsts_split {R : List LL} {u s : List Int} (h : fsts R = u ++ s) : ∃ R1 R2, R = R1 ++ R2 ∧ fsts R1 = u ∧ fsts R2 = s := by
  unfold fsts at h ⊢
  obtain ⟨R1, R2, h1, h2, h3⟩ := List.map_eq_append_iff.1 h
  exact ⟨R1, R2, h1, h2, h3⟩
theorem fsts_cons_split {R : List LL} {x : Int} {s : List Int} (h : fsts R = x :: s) : ∃ y R2, R = y :: R2 ∧ y.1 = x ∧ fsts R2 = s := by
  cases R with
  | nil => simp [fsts] at h
  | cons y R =>
    rw [fsts_cons] at h
    obtain ⟨h1, h2⟩ := List.cons.inj h
    exact ⟨y, R, rfl, h1, h2⟩
/-- A word on the way: the measure is at most m. -/
def OnWay (n l : Nat) (A B : List Int) (X : List (List Int)) (w : List Int) (m : Nat) : Prop := ∃ V R, V ++ fsts R = w ∧ Mach n l A B X V R ∧ muL n X R ≤ m
theorem OnWay.len (hX : Cover n A B X) {w : List Int} {m : Nat} (h : OnWay n l A B X w m) : w.length ≤ X.length + (l + 3 * ((n - 2) * X.length)) := by
  obtain ⟨V, R, rfl, hm, _⟩ := h
  exact hm.len hX
theorem OnWay.lt {w : List Int} {m : Nat} (h : OnWay n l A B X w m) : LtW n w := by
  obtain ⟨V, R, rfl, hm, _⟩ := h
  exact hm.lt
/-- A pair that cancels. -/
theorem OnWay.del (hn : n ≤ 1000) (h2 : 2 ≤ n) (hA : LtW n A) (hX : Cover n A B X) {a b : List Int} {x : Int} {m : Nat} (h : OnWay n l A B X (a ++ x :: (-x) :: b) m) : OnWay n l A B X (a ++ b) m := by
  obtain ⟨V, R, e, hm, hmu⟩ := h
  rcases app_cases e with ⟨u, e1, e2⟩ | ⟨u, e1, e2⟩
  · -- V = a ++ u
    rcases u with _ | ⟨t, _ | ⟨t', u⟩⟩
    · rw [List.append_nil] at e1
      rw [List.nil_append] at e2
      obtain ⟨y, R2, rfl, hy, e3⟩ := fsts_cons_split e2.symm
      obtain ⟨y', R3, rfl, hy', e4⟩ := fsts_cons_split e3
      have h3 := Mach.del hn h2 hA (R1 := []) hm (by rw [hy', hy])
      have h4 := mu_del (n := n) (X := X) y y' [] R3
      exact ⟨V, R3, by rw [e1, e4], h3, by simp only [List.nil_append] at h4; omega⟩
    · rw [List.cons_append, List.nil_append] at e2
      obtain ⟨rfl, e3⟩ := List.cons.inj e2
      obtain ⟨y, R2, rfl, hy, e4⟩ := fsts_cons_split e3.symm
      rw [e1] at hm
      obtain ⟨L, hL, h3, h4⟩ := Mach.red hn h2 hA hX (M := []) hm (fun z hz => by simp at hz) hy
      have : L = [] := by
        cases L with
        | nil => rfl
        | cons _ _ => simp [fsts, midW] at hL
      subst this
      exact ⟨a, R2, by rw [e4], by simpa using h3, by simp only [List.nil_append] at h4; omega⟩
    · exfalso
      rw [List.cons_append, List.cons_append] at e2
      obtain ⟨rfl, e3⟩ := List.cons.inj e2
      obtain ⟨rfl, e4⟩ := List.cons.inj e3
      refine hm.cl (a ++ [x]) (-x) u (by rw [e1]; simp) ⟨a, [], by rw [Int.neg_neg], fun z hz => by simp at hz⟩
  · -- a = V ++ u
    obtain ⟨R1, R2, rfl, e3, e4⟩ := fsts_split e2
    obtain ⟨y, R3, rfl, hy, e5⟩ := fsts_cons_split e4
    obtain ⟨y', R4, rfl, hy', e6⟩ := fsts_cons_split e5
    have h3 := Mach.del hn h2 hA hm (by rw [hy', hy])
    have h4 := mu_del (n := n) (X := X) y y' R1 R4
    exact ⟨V, R1 ++ R4, by rw [fsts_append, e3, e6, e1]; simp, h3, by omega⟩
/-- The reduced word. -/
theorem OnWay.redL (hn : n ≤ 1000) (h2 : 2 ≤ n) (hA : LtW n A) (hX : Cover n A B X) {w : List Int} {m : Nat} (h : OnWay n l A B X w m) : OnWay n l A B X (redL w) m := by
  have key : ∀ (b s : List Int), OnWay n l A B X (s.reverse ++ b) m → OnWay n l A B X ((act s b).reverse) m := by
    intro b
    induction b with
    | nil => intro s h; simpa [act] using h
    | cons x b ih =>
      intro s h
      show OnWay n l A B X ((act (psh s x) b).reverse) m
      refine ih _ ?_
      cases s with
      | nil => simpa [psh] using h
      | cons y t =>
        have ep : psh (y :: t) x = if y = -x then t else x :: y :: t := rfl
        rw [ep]
        by_cases hy : y = -x
        · rw [if_pos hy]
          subst hy
          have e : (-x :: t).reverse ++ x :: b = t.reverse ++ (-x) :: (- -x) :: b := by simp
          rw [e] at h
          exact h.del hn h2 hA hX
        · rw [if_neg hy]
          simpa using h
  have := key w [] (by simpa using h)
  exact this
/-- A handle. -/
theorem OnWay.handle (hn : n ≤ 1000) (h2 : 2 ≤ n) (hA : LtW n A) (hX : Cover n A B X) {P M s : List Int} {x : Int} {m : Nat} (h : OnWay n l A B X (P ++ x :: M ++ (-x) :: s) m) (hc : Clean (P ++ x :: M)) (hM : ∀ y ∈ M, x.natAbs < y.natAbs) : 0 < m ∧ OnWay n l A B X (P ++ (midW x M ++ s)) (m - 1) := by
  obtain ⟨V, R, e, hm, hmu⟩ := h
  have cl : closeAt (P ++ x :: M) (-x) := ⟨P, M, by rw [Int.neg_neg], fun y hy => by rw [Int.natAbs_neg]; exact hM y hy⟩
  -- V is a part of P ++ x :: M
  have hpre : ∃ u, P ++ x :: M = V ++ u ∧ fsts R = u ++ (-x) :: s := by
    rcases app_cases e with ⟨u, e1, e2⟩ | ⟨u, e1, e2⟩
    · cases u with
      | nil => exact ⟨[], by rw [e1]; simp, by rw [List.nil_append] at e2 ⊢; exact e2.symm⟩
      | cons t u =>
        exfalso
        rw [List.cons_append] at e2
        obtain ⟨rfl, _⟩ := List.cons.inj e2
        exact hm.cl _ _ _ e1 cl
    · exact ⟨u, e1, e2⟩
  obtain ⟨u, e1, e2⟩ := hpre
  -- the letters ahead are passed
  have pass : ∀ (u V : List Int) (R : List LL), Mach n l A B X V R → P ++ x :: M = V ++ u → fsts R = u ++ (-x) :: s → ∃ R', Mach n l A B X (P ++ x :: M) R' ∧ fsts R' = (-x) :: s ∧ muL n X R' ≤ muL n X R := by
    intro u
    induction u with
    | nil =>
      intro V R hm e1 e2
      rw [List.append_nil] at e1
      exact ⟨R, by rw [e1]; exact hm, e2, Nat.le_refl _⟩
    | cons t u ih =>
      intro V R hm e1 e2
      obtain ⟨y, R2, rfl, hy, e3⟩ := fsts_cons_split e2
      have hno : ¬ closeAt V y.1 := by
        rw [hy]
        exact hc V t u e1
      have h3 := hm.shift hno
      rw [hy] at h3
      obtain ⟨R', h4, h5, h6⟩ := ih (V ++ [t]) R2 h3 (by rw [e1]; simp) e3
      have := mu_shift (n := n) (X := X) y R2
      exact ⟨R', h4, h5, by omega⟩
  obtain ⟨R', h3, h4, h5⟩ := pass u V R hm e1 e2
  obtain ⟨y, R2, rfl, hy, e3⟩ := fsts_cons_split h4
  obtain ⟨L, hL, h6, h7⟩ := Mach.red hn h2 hA hX h3 hM hy
  exact ⟨by omega, P, L ++ R2, by rw [fsts_append, hL, e3], h6, by omega⟩
/-- The start. -/
theorem OnWay.start {w : List Int} (hw : LtW n w) (hd : DrF n A B [] w) (hl : w.length ≤ l) : ∃ m, OnWay n l A B X w m := by
  obtain ⟨R, hR⟩ : ∃ R : List LL, R = w.map fun z => (z, none) := ⟨_, rfl⟩
  have hf : fsts R = w := by rw [hR]; simp [fsts, Function.comp_def]
  refine ⟨_, [], R, by rw [hf]; rfl, ⟨by rw [hf]; exact hw, by rw [hf]; exact hd, clean_nil, fun R1 z k e q R2 er => ?_, fun k q => ?_, ?_⟩, Nat.le_refl _⟩
  · have : (z, some (k, e, q)) ∈ R := by rw [er]; simp
    rw [hR] at this
    obtain ⟨t, _, ht⟩ := List.mem_map.1 this
    simp at ht
  · have : R.countP (isLab k q) = 0 := List.countP_eq_zero.2 fun t ht hs => by
      rw [hR] at ht
      obtain ⟨z, _, rfl⟩ := List.mem_map.1 ht
      simp [isLab] at hs
    omega
  · have := List.countP_le_length (p := fun y : LL => y.2.isNone) (l := R)
    rw [hR, List.length_map] at this
    rw [hR]; omega
/-- What has no handles has a sign. -/
theorem clean_sign {w : List Int} (hw : LtW n w) (hc : Clean w) (h0 : w ≠ []) : ∃ k s, 0 < k ∧ (s = 1 ∨ s = -1) ∧ SPos k s w := by
  have hmin : ∃ k, (∃ y ∈ w, y.natAbs = k) ∧ ∀ y ∈ w, k ≤ y.natAbs := by
    have : ∀ (m : Nat), (∃ y ∈ w, y.natAbs ≤ m) → ∃ k, (∃ y ∈ w, y.natAbs = k) ∧ ∀ y ∈ w, k ≤ y.natAbs := by
      intro m
      induction m with
      | zero => rintro ⟨y, hy, h⟩; exact ⟨y.natAbs, ⟨y, hy, rfl⟩, fun z hz => by omega⟩
      | succ m ih =>
        rintro ⟨y, hy, h⟩
        by_cases hh : ∃ z ∈ w, z.natAbs ≤ m
        · exact ih hh
        · exact ⟨y.natAbs, ⟨y, hy, rfl⟩, fun z hz => Nat.le_of_not_lt fun hlt => hh ⟨z, hz, by omega⟩⟩
    obtain ⟨y, hy⟩ := List.exists_mem_of_ne_nil w h0
    exact this y.natAbs ⟨y, hy, Nat.le_refl _⟩
  obtain ⟨k, ⟨y, hy, hyk⟩, hge⟩ := hmin
  have hk : 0 < k := by have := (hw y hy).1; omega
  obtain ⟨s, hs, hm⟩ := mono_of_clean hk w.length w [] (Nat.le_refl _) (by simpa using hc) hge
  exact ⟨k, s, hk, hs, hm, y, hy, hyk⟩
end
end Go.Proofs.Ytnmklkjlcpgjmaa

namespace Go.Proofs.Ytnmklkjlcpgjmaa
open Go.RowKit Go.Sl

section
variable {n r : Nat} {D : List Int}
/-- Y lies below all vertices of the path, shifted. -/
def Bel (n r : Nat) (D Y w : List Int) : Prop := ∀ p s, w = p ++ s → LeB n Y (p ++ powB (r : Int) D)
/-- Each later vertex lies below each earlier one, shifted. -/
def Rho (n r : Nat) (D w : List Int) : Prop := ∀ q s, w = q ++ s → Bel n r D q q
theorem k_up (hD : IsUp n D (hf n)) (x : List Int) : LeB n x (x ++ powB (r : Int) D) := LeB.add (powB_pos hD.posW (by omega))
theorem k_mono (hn : n ≤ 1000) (hD : IsUp n D (hf n)) {x y : List Int} (h : LeB n x y) : LeB n (x ++ powB (r : Int) D) (y ++ powB (r : Int) D) := by
  refine le_unshift hn hD (h.congr ?_ (.refl _))
  have := (powB_neg hD.lt (r : Int)).pre x
  rw [List.append_nil] at this
  rw [List.append_assoc]
  exact this.symm
theorem k_lcmR (hn : n ≤ 1000) (h2 : 2 ≤ n) (hD : IsUp n D (hf n)) {i j : Nat} (hi : i + 1 < n) (hj : j + 1 < n) {Y p : List Int} (hY : LtW n Y) (h : LeB n Y ((p ++ [-ltr i]) ++ powB (r : Int) D)) (k : LeB n Y ((p ++ [-ltr j]) ++ powB (r : Int) D)) : LeB n Y ((p ++ invB (lcmB i j)) ++ powB (r : Int) D) :=
  le_unshift hn hD (LeB.lcmR hn h2 hi hj (hY.app (powB_lt hD.lt _)) (le_shift hn hD h) (le_shift hn hD k))
theorem Bel.left {Y a b : List Int} (h : Bel n r D Y (a ++ b)) : Bel n r D Y a := fun p s e => h p (s ++ b) (by rw [e]; simp)
theorem Bel.congr {Y Z w : List Int} (h : Bel n r D Y w) (e : BE n Y Z) : Bel n r D Z w := fun p s e2 => (h p s e2).congr e (.refl _)
theorem Rho.left {a b : List Int} (h : Rho n r D (a ++ b)) : Rho n r D a := fun q s e => h q (s ++ b) (by rw [e]; simp)
theorem Rho.le {a b c : List Int} (h : Rho n r D (a ++ b ++ c)) : LeB n (a ++ b) (a ++ powB (r : Int) D) := h (a ++ b) c rfl a b rfl
/-- A word of negative letters. -/
def NegW (n : Nat) (w : List Int) : Prop := ∀ x ∈ w, x < 0 ∧ LtB n x
theorem NegW.lt {w : List Int} (h : NegW n w) : LtW n w := fun x hx => (h x hx).2
theorem NegW.inv {w : List Int} (h : NegW n w) : PosW n (invB w) := fun x hx => by
  unfold invB at hx
  rw [List.mem_reverse] at hx
  obtain ⟨y, hy, rfl⟩ := List.mem_map.1 hx
  have h1 := h y hy
  have h2 := h1.2.2
  omega
theorem NegW.left {a b : List Int} (h : NegW n (a ++ b)) : NegW n a := fun x hx => h x (by simp [hx])
theorem NegW.right {a b : List Int} (h : NegW n (a ++ b)) : NegW n b := fun x hx => h x (by simp [hx])
theorem NegW.le {w : List Int} (h : NegW n w) (v : List Int) : LeB n (v ++ w) v := ⟨invB w, h.inv, by
  have := (BE.mulInv h.lt).pre v
  rw [List.append_nil] at this
  rw [List.append_assoc]; exact this⟩
/-- An elementary move of two letters a to c, at v. -/
structure Mv (n r : Nat) (D v a c : List Int) : Prop where
  eq : BE n (v ++ c) (v ++ a)
  up : ∀ c1 c2, c = c1 ++ c2 → ∀ Z, LeB n v Z → LeB n (v ++ a) Z → LeB n (v ++ c1) Z
  dn : ∀ c1 c2, c = c1 ++ c2 → ∀ Y, LtW n Y → LeB n Y (v ++ powB (r : Int) D) → LeB n Y (v ++ a ++ powB (r : Int) D) → LeB n Y (v ++ c1 ++ powB (r : Int) D)
  inn : LeB n (v ++ a) (v ++ powB (r : Int) D) → ∀ c1 c2 c3, c = c1 ++ (c2 ++ c3) → LeB n (v ++ (c1 ++ c2)) (v ++ c1 ++ powB (r : Int) D)
theorem Mv.bel {v a c : List Int} (m : Mv n r D v a c) {Y s : List Int} (lY : LtW n Y) (h : Bel n r D Y (v ++ (a ++ s))) : Bel n r D Y (v ++ (c ++ s)) := fun p t e => by
  rcases app_cases e with ⟨u, e1, e2⟩ | ⟨u, e1, e2⟩
  · exact h p (u ++ (a ++ s)) (by rw [e1]; simp)
  · rcases app_cases e2 with ⟨x, e3, e4⟩ | ⟨x, e3, e4⟩
    · rw [e1]
      exact m.dn u x e3 Y lY (h v _ rfl) (h (v ++ a) s (by simp))
    · have h1 := h (v ++ a ++ x) t (by rw [e4]; simp)
      refine h1.congr (.refl _) ?_
      rw [e1, e3]
      have := m.eq.symm.post (x ++ powB (r : Int) D)
      simpa using this
theorem Mv.rho {v a c : List Int} (m : Mv n r D v a c) {s : List Int} (l : LtW n (v ++ (a ++ s))) (h : Rho n r D (v ++ (a ++ s))) : Rho n r D (v ++ (c ++ s)) := fun q t e => by
  rcases app_cases e with ⟨u, e1, e2⟩ | ⟨u, e1, e2⟩
  · exact h q (u ++ (a ++ s)) (by rw [e1]; simp)
  · rcases app_cases e2 with ⟨x, e3, e4⟩ | ⟨x, e3, e4⟩
    · rw [e1]
      intro p p2 e5
      have hv := h v (a ++ s) rfl
      have hva := h (v ++ a) s (by simp)
      rcases app_cases e5 with ⟨y, e6, e7⟩ | ⟨y, e6, e7⟩
      · exact m.up u x e3 _ (hv p y e6) (hva p (y ++ a) (by rw [e6]; simp))
      · rw [e6, e7]
        exact m.inn (hva v a rfl) y p2 x (by rw [e3, e7]; simp)
    · have h1 : Bel n r D (v ++ a ++ x) (v ++ (a ++ x)) := h (v ++ a ++ x) t (by rw [e4]; simp) |>.congr (.refl _) |> fun h => by simpa using h
      have lx : LtW n (v ++ a ++ x) := by
        have : v ++ (a ++ s) = (v ++ a ++ x) ++ t := by rw [e4]; simp
        rw [this] at l
        exact l.left
      have h2 := m.bel lx h1
      rw [e1, e3]
      refine h2.congr ?_
      have := m.eq.symm.post x
      simpa using this
/-- Down and up again: what lies below both ends, shifted, lies below the bottom, shifted. -/
theorem Mv.valley (hn : n ≤ 1000) (hD : IsUp n D (hf n)) {v a d e : List Int} (hd : NegW n d) (he : PosW n e) (hv : LtW n (v ++ a)) (heq : BE n (v ++ (d ++ e)) (v ++ a))
    (hb : ∀ Y, LtW n Y → LeB n Y (v ++ powB (r : Int) D) → LeB n Y (v ++ a ++ powB (r : Int) D) → LeB n Y (v ++ d ++ powB (r : Int) D)) : Mv n r D v a (d ++ e) := by
  have low : ∀ c1 c2, d ++ e = c1 ++ c2 → LeB n (v ++ d) (v ++ c1) := fun c1 c2 h => by
    rcases app_cases h with ⟨u, e1, e2⟩ | ⟨u, e1, e2⟩
    · have h1 : NegW n u := by rw [e1] at hd; exact hd.right
      have := h1.le (v ++ c1)
      rw [e1]; simpa using this
    · have h1 : PosW n u := by rw [e2] at he; exact he.left
      have := LeB.add (n := n) (x := v ++ d) h1
      rw [e1]; simpa using this
  have hi : ∀ c1 c2, d ++ e = c1 ++ c2 → LeB n (v ++ c1) v ∨ LeB n (v ++ c1) (v ++ a) := fun c1 c2 h => by
    rcases app_cases h with ⟨u, e1, e2⟩ | ⟨u, e1, e2⟩
    · have h1 : NegW n c1 := by rw [e1] at hd; exact hd.left
      exact .inl (h1.le v)
    · have h1 : PosW n c2 := by rw [e2] at he; exact he.right
      refine .inr ((LeB.add (n := n) (x := v ++ c1) h1).congr (.refl _) ?_)
      rw [List.append_assoc, ← h]; exact heq
  refine ⟨heq, fun c1 c2 h Z h1 h3 => ?_, fun c1 c2 h Y lY h1 h3 => ?_, fun h0 c1 c2 c3 h => ?_⟩
  · rcases hi c1 c2 h with h4 | h4
    · exact h4.trans h1
    · exact h4.trans h3
  · exact (hb Y lY h1 h3).trans (k_mono hn hD (low c1 c2 h))
  · have hw : LeB n (v ++ a) (v ++ c1 ++ powB (r : Int) D) := (hb _ hv h0 (k_up hD _)).trans (k_mono hn hD (low c1 (c2 ++ c3) h))
    have h' : d ++ e = (c1 ++ c2) ++ c3 := by rw [h]; simp
    rcases app_cases h' with ⟨u, e1, e2⟩ | ⟨u, e1, e2⟩
    · have h1 : NegW n c2 := by rw [e1] at hd; exact hd.left.right
      have := (h1.le (v ++ c1)).trans (k_up (r := r) hD _)
      simpa using this
    · have h1 : PosW n c3 := by rw [e2] at he; exact he.right
      have h4 := (LeB.add (n := n) (x := v ++ (c1 ++ c2)) h1).congr (.refl _) (y' := v ++ a) (by rw [List.append_assoc, ← h']; exact heq)
      exact h4.trans hw
/-- Up and down again. -/
theorem Mv.peak (hn : n ≤ 1000) (hD : IsUp n D (hf n)) {v a d e : List Int} (hd : PosW n d) (he : NegW n e) (heq : BE n (v ++ (d ++ e)) (v ++ a))
    (ht : ∀ Z, LeB n v Z → LeB n (v ++ a) Z → LeB n (v ++ d) Z) : Mv n r D v a (d ++ e) := by
  have up : ∀ c1 c2, d ++ e = c1 ++ c2 → LeB n (v ++ c1) (v ++ d) := fun c1 c2 h => by
    rcases app_cases h with ⟨u, e1, e2⟩ | ⟨u, e1, e2⟩
    · have h1 : PosW n u := by rw [e1] at hd; exact hd.right
      have := LeB.add (n := n) (x := v ++ c1) h1
      rw [e1]; simpa using this
    · have h1 : NegW n u := by rw [e2] at he; exact he.left
      have := h1.le (v ++ d)
      rw [e1]; simpa using this
  refine ⟨heq, fun c1 c2 h Z h1 h3 => (up c1 c2 h).trans (ht Z h1 h3), fun c1 c2 h Y lY h1 h3 => ?_, fun h0 c1 c2 c3 h => ?_⟩
  · rcases app_cases h with ⟨u, e1, e2⟩ | ⟨u, e1, e2⟩
    · have h4 : PosW n c1 := by rw [e1] at hd; exact hd.left
      exact h1.trans (k_mono hn hD (LeB.add h4))
    · have h4 : NegW n c2 := by rw [e2] at he; exact he.right
      have h5 := (h4.le (v ++ c1)).congr (x' := v ++ a) (by rw [List.append_assoc, ← h]; exact heq) (.refl _)
      exact h3.trans (k_mono hn hD h5)
  · rcases app_cases h with ⟨u, e1, e2⟩ | ⟨u, e1, e2⟩
    · have h4 : PosW n c1 := by rw [e1] at hd; exact hd.left
      have h5 := up (c1 ++ c2) c3 (by rw [h]; simp)
      exact h5.trans ((ht _ (k_up hD v) h0).trans (k_mono hn hD (LeB.add h4)))
    · have h4 : NegW n c2 := by rw [e2] at he; exact he.right.left
      have := (h4.le (v ++ c1)).trans (k_up (r := r) hD _)
      simpa using this
theorem neg1 {i : Nat} (hi : i + 1 < n) : NegW n [-ltr i] := fun x hx => by
  rw [List.mem_singleton.1 hx]
  exact ⟨by unfold ltr; omega, lt_neg (lt_ltr hi)⟩
theorem neg2 {i j : Nat} (hi : i + 1 < n) (hj : j + 1 < n) : NegW n [-ltr j, -ltr i] := fun x hx => by
  simp only [List.mem_cons, List.not_mem_nil, or_false] at hx
  rcases hx with rfl | rfl
  · exact neg1 hj _ (by simp)
  · exact neg1 hi _ (by simp)
theorem pos2 {i j : Nat} (hi : i + 1 < n) (hj : j + 1 < n) : PosW n [ltr j, ltr i] := fun x hx => by
  simp only [List.mem_cons, List.not_mem_nil, or_false] at hx
  rcases hx with rfl | rfl
  · exact pos_ltr hj
  · exact pos_ltr hi
/-- Far letters change places. -/
theorem mv_far (hn : n ≤ 1000) (h2 : 2 ≤ n) (hD : IsUp n D (hf n)) {v : List Int} (hv : LtW n v) {x y : Int} (hx : LtB n x) (hy : LtB n y) (hf : x.natAbs + 1 < y.natAbs ∨ y.natAbs + 1 < x.natAbs) : Mv n r D v [x, y] [y, x] := by
  have hc : BE n (v ++ [y, x]) (v ++ [x, y]) := ((BE.far hx hy hf).pre v).symm
  have lva : LtW n (v ++ [x, y]) := hv.app (lwc hx (lw1 hy))
  rcases Int.lt_or_lt_of_ne hx.1 with xn | xp
  · rcases Int.lt_or_lt_of_ne hy.1 with yn | yp
    · obtain ⟨i, hi, rfl⟩ := neg_of hx xn
      obtain ⟨j, hj, rfl⟩ := neg_of hy yn
      have := Mv.valley (r := r) (d := [-ltr j, -ltr i]) (e := []) hn hD (neg2 hi hj) posW_nil lva (by simpa using hc) fun Y _ _ h => h.congr (.refl _) (hc.symm.post _)
      simpa using this
    · obtain ⟨i, hi, rfl⟩ := neg_of hx xn
      obtain ⟨j, hj, rfl⟩ := pos_of hy yp
      refine Mv.peak (d := [ltr j]) (e := [-ltr i]) hn hD (PosW.one (pos_ltr hj)) (neg1 hi) hc fun Z h1 h3 => ?_
      have hb : LtW n (v ++ [-ltr i]) := hv.app (lw1 hx)
      have e1 : BE n (v ++ [-ltr i] ++ [ltr i]) v := by have := cancelAt (v := v) hx; rwa [Int.neg_neg] at this
      have h4 := LeB.lcm hn h2 hi hj hb (p := Z) (h1.congr e1.symm (.refl _)) (by simpa using h3)
      have e2 : lcmB i j = [ltr i] ++ [ltr j] := by unfold lcmB; rw [if_pos (by unfold ltr at hf; omega)]; rfl
      rw [e2, ← List.append_assoc] at h4
      exact h4.congr (e1.post _) (.refl _)
  · rcases Int.lt_or_lt_of_ne hy.1 with yn | yp
    · obtain ⟨i, hi, rfl⟩ := pos_of hx xp
      obtain ⟨j, hj, rfl⟩ := neg_of hy yn
      refine Mv.valley (d := [-ltr j]) (e := [ltr i]) hn hD (neg1 hj) (PosW.one (pos_ltr hi)) lva hc fun Y lY h1 h3 => ?_
      have e1 : BE n (v ++ [ltr i] ++ [-ltr i]) v := cancelAt hx
      have h4 := k_lcmR (r := r) hn h2 hD hj hi (p := v ++ [ltr i]) lY (by simpa using h3) (h1.congr (.refl _) (e1.symm.post _))
      have e2 : invB (lcmB j i) = [-ltr i] ++ [-ltr j] := by unfold lcmB; rw [if_pos (by unfold ltr at hf; omega)]; rfl
      rw [e2, ← List.append_assoc] at h4
      exact h4.congr (.refl _) ((e1.post _).post _)
    · obtain ⟨i, hi, rfl⟩ := pos_of hx xp
      obtain ⟨j, hj, rfl⟩ := pos_of hy yp
      have := Mv.peak (r := r) (d := [ltr j, ltr i]) (e := []) hn hD (pos2 hi hj) (fun x hx => by simp at hx) (by simpa using hc) fun Z _ h => h.congr hc.symm (.refl _)
      simpa using this
theorem lcm_near {i j : Nat} (h : i + 1 = j ∨ j + 1 = i) : lcmB i j = [ltr i, ltr j, ltr i] := by
  unfold lcmB
  rw [if_neg (by omega), if_neg (by omega)]
theorem braid_near {i j : Nat} (hi : i + 1 < n) (hj : j + 1 < n) (h : i + 1 = j ∨ j + 1 = i) : BE n [ltr i, ltr j, ltr i] [ltr j, ltr i, ltr j] := by
  have := ltr_swap hi hj
  rwa [lcm_near h, lcm_near (by omega)] at this
/-- Near letters, up and down: under the hexagon. -/
theorem mv_low (hn : n ≤ 1000) (h2 : 2 ≤ n) (hD : IsUp n D (hf n)) {v : List Int} (hv : LtW n v) {i j : Nat} (hi : i + 1 < n) (hj : j + 1 < n) (h : i + 1 = j ∨ j + 1 = i) : Mv n r D v [ltr i, -ltr j] [-ltr j, -ltr i, ltr j, ltr i] := by
  have li := lt_ltr hi
  have lj := lt_ltr hj
  have lva : LtW n (v ++ [ltr i, -ltr j]) := hv.app (lwc li (lw1 (lt_neg lj)))
  have hc : BE n ([-ltr j, -ltr i, ltr j, ltr i]) ([ltr i, -ltr j]) := by
    refine BE.cancelL (a := [ltr i, ltr j]) ?_ (lwc li (lw1 lj))
    have h1 := BE.ctx [ltr i] [-ltr i, ltr j, ltr i] (BE.cancel lj)
    have h3 := BE.ctx [] [ltr j, ltr i] (BE.cancel li)
    have h4 := (braid_near hi hj h).post [-ltr j]
    have h5 := BE.ctx [ltr j, ltr i] [] (BE.cancel lj)
    simp only [List.cons_append, List.nil_append, List.append_nil] at h1 h3 h4 h5 ⊢
    exact (h1.trans h3).trans (h4.trans h5).symm
  refine Mv.valley (d := [-ltr j, -ltr i]) (e := [ltr j, ltr i]) hn hD (neg2 hi hj) (pos2 hi hj) lva (hc.pre v) fun Y lY h1 h3 => ?_
  have e1 : BE n (v ++ [ltr i] ++ [-ltr i]) v := cancelAt li
  have h4 := k_lcmR (r := r) hn h2 hD hi hj (p := v ++ [ltr i]) lY (h1.congr (.refl _) (e1.symm.post _)) (by simpa using h3)
  rw [lcm_near h] at h4
  refine h4.congr (.refl _) ?_
  have := e1.post ([-ltr j, -ltr i] ++ powB (r : Int) D)
  simpa [invB] using this
theorem mv_high (hn : n ≤ 1000) (h2 : 2 ≤ n) (hD : IsUp n D (hf n)) {v : List Int} (hv : LtW n v) {i j : Nat} (hi : i + 1 < n) (hj : j + 1 < n) (h : i + 1 = j ∨ j + 1 = i) : Mv n r D v [-ltr i, ltr j] [ltr j, ltr i, -ltr j, -ltr i] := by
  have li := lt_ltr hi
  have lj := lt_ltr hj
  have hc : BE n ([ltr j, ltr i, -ltr j, -ltr i]) ([-ltr i, ltr j]) := by
    refine BE.cancelR (a := [ltr i, ltr j]) ?_ (lwc li (lw1 lj))
    have h1 := BE.ctx [ltr j, ltr i, -ltr j] [ltr j] (BE.cancel (lt_neg li))
    have h3 := BE.ctx [ltr j, ltr i] [] (BE.cancel (lt_neg lj))
    have h4 := (braid_near hi hj h).pre [-ltr i]
    have h5 := BE.ctx [] [ltr j, ltr i] (BE.cancel (lt_neg li))
    simp only [List.cons_append, List.nil_append, List.append_nil, Int.neg_neg] at h1 h3 h4 h5 ⊢
    exact (h1.trans h3).trans (h5.symm.trans h4)
  refine Mv.peak (d := [ltr j, ltr i]) (e := [-ltr j, -ltr i]) hn hD (pos2 hi hj) (neg2 hi hj) (hc.pre v) fun Z h1 h3 => ?_
  have hb : LtW n (v ++ [-ltr i]) := hv.app (lw1 (lt_neg li))
  have e1 : BE n (v ++ [-ltr i] ++ [ltr i]) v := by have := cancelAt (v := v) (lt_neg li); rwa [Int.neg_neg] at this
  have h4 := LeB.lcm hn h2 hi hj hb (p := Z) (h1.congr e1.symm (.refl _)) (by simpa using h3)
  rw [lcm_near h] at h4
  refine h4.congr ?_ (.refl _)
  have := e1.post [ltr j, ltr i]
  simpa using this
end
end Go.Proofs.Ytnmklkjlcpgjmaa

namespace Go.Proofs.Ytnmklkjlcpgjmaa
open Go.RowKit Go.Sl

section
variable {n r : Nat} {D : List Int}
/-- The path w may become w': whatever follows. -/
def Rw (n r : Nat) (D w w' : List Int) : Prop := ∀ s, LtW n (w ++ s) → (∀ Y, LtW n Y → Bel n r D Y (w ++ s) → Bel n r D Y (w' ++ s)) ∧ (Rho n r D (w ++ s) → Rho n r D (w' ++ s))
theorem Rw.trans {a b c : List Int} (h : Rw n r D a b) (hb : LtW n b) (k : Rw n r D b c) : Rw n r D a c := fun s l => by
  obtain ⟨h1, h3⟩ := h s l
  obtain ⟨k1, k3⟩ := k s (hb.app l.right)
  exact ⟨fun Y lY hh => k1 Y lY (h1 Y lY hh), fun hh => k3 (h3 hh)⟩
theorem Rw.post {a b : List Int} (h : Rw n r D a b) (t : List Int) : Rw n r D (a ++ t) (b ++ t) := fun s l => by
  rw [List.append_assoc] at l
  have := h (t ++ s) l
  simpa using this
theorem Mv.rw {v a c : List Int} (m : Mv n r D v a c) : Rw n r D (v ++ a) (v ++ c) := fun s l => by
  rw [List.append_assoc] at l
  refine ⟨fun Y lY h => ?_, fun h => ?_⟩
  · rw [List.append_assoc] at h ⊢
    exact m.bel lY h
  · rw [List.append_assoc] at h ⊢
    exact m.rho l h
theorem mv_cancel (hD : IsUp n D (hf n)) {v : List Int} {x : Int} (hx : LtB n x) : Mv n r D v [x, -x] [] := by
  have e : BE n (v ++ []) (v ++ [x, -x]) := by
    have := cancelAt (v := v) hx
    rw [List.append_nil]
    simpa using this.symm
  have z : ∀ {c1 c2 : List Int}, [] = c1 ++ c2 → c1 = [] := fun h => (List.append_eq_nil_iff.1 h.symm).1
  refine ⟨e, fun c1 c2 h Z h1 _ => ?_, fun c1 c2 h Y _ h1 _ => ?_, fun _ c1 c2 c3 h => ?_⟩
  · rw [z h, List.append_nil]; exact h1
  · rw [z h, List.append_nil]; exact h1
  · obtain rfl := z h
    obtain rfl := z (show [] = c2 ++ c3 from h)
    simpa using k_up (r := r) hD v
theorem rw_cancel (hD : IsUp n D (hf n)) {v : List Int} {x : Int} (hx : LtB n x) : Rw n r D (v ++ [x, -x]) v := by
  have := (mv_cancel (r := r) hD (v := v) hx).rw
  rwa [List.append_nil] at this
/-- The first end of a handle moves over a letter. -/
theorem rw_R (hn : n ≤ 1000) (h2 : 2 ≤ n) (hD : IsUp n D (hf n)) {v : List Int} (hv : LtW n v) {x y : Int} (hx : LtB n x) (hy : LtB n y) (hf : x.natAbs + 1 < y.natAbs ∨ (y.natAbs = x.natAbs + 1 ∧ y.sign = -x.sign)) : Mv n r D v [x, y] (midB x y ++ [x]) := by
  rcases hf with hf | ⟨hk, hs⟩
  · rw [midB_far (by omega)]
    exact mv_far hn h2 hD hv hx hy (.inl hf)
  · rw [midB_near hk]
    rcases Int.lt_or_lt_of_ne hx.1 with xn | xp
    · rw [sgn_neg xn] at hs ⊢
      have yp : 0 < y := by
        rcases Int.lt_or_lt_of_ne hy.1 with h | h
        · rw [sgn_neg h] at hs; omega
        · exact h
      rw [sgn_pos yp]
      obtain ⟨i, hi, rfl⟩ := neg_of hx xn
      obtain ⟨j, hj, rfl⟩ := pos_of hy yp
      rw [Int.natAbs_neg, ltr_abs, ltr_abs] at hk
      obtain rfl : j = i + 1 := by omega
      have e1 : -(-1 * ((((-ltr i).natAbs + 1 : Nat)) : Int)) = ltr (i + 1) := by rw [Int.natAbs_neg, ltr_abs]; unfold ltr; omega
      have e2 : (1 : Int) * ((-ltr i).natAbs : Int) = ltr i := by rw [Int.natAbs_neg, ltr_abs]; unfold ltr; omega
      have e3 : -1 * ((((-ltr i).natAbs + 1 : Nat)) : Int) = -ltr (i + 1) := by rw [Int.natAbs_neg, ltr_abs]; unfold ltr; omega
      rw [e1, e2, e3]
      exact mv_high hn h2 hD hv hi hj (.inl rfl)
    · rw [sgn_pos xp] at hs ⊢
      have yn : y < 0 := by
        rcases Int.lt_or_lt_of_ne hy.1 with h | h
        · exact h
        · rw [sgn_pos h] at hs; omega
      rw [sgn_neg yn]
      obtain ⟨i, hi, rfl⟩ := pos_of hx xp
      obtain ⟨j, hj, rfl⟩ := neg_of hy yn
      rw [Int.natAbs_neg, ltr_abs, ltr_abs] at hk
      obtain rfl : j = i + 1 := by omega
      have e1 : -(1 * ((((ltr i).natAbs + 1 : Nat)) : Int)) = -ltr (i + 1) := by rw [ltr_abs]; unfold ltr; omega
      have e2 : (-1 : Int) * ((ltr i).natAbs : Int) = -ltr i := by rw [ltr_abs]; unfold ltr; omega
      have e3 : 1 * ((((ltr i).natAbs + 1 : Nat)) : Int) = ltr (i + 1) := by rw [ltr_abs]; unfold ltr; omega
      rw [e1, e2, e3]
      exact mv_low hn h2 hD hv hi hj (.inl rfl)
/-- The last end of a handle moves over a letter. -/
theorem rw_L (hn : n ≤ 1000) (h2 : 2 ≤ n) (hD : IsUp n D (hf n)) {v : List Int} (hv : LtW n v) {x y : Int} (hx : LtB n x) (hy : LtB n y) (hf : x.natAbs + 1 < y.natAbs ∨ (y.natAbs = x.natAbs + 1 ∧ y.sign = x.sign)) : Mv n r D v [y, -x] ([-x] ++ midB x y) := by
  rcases hf with hf | ⟨hk, hs⟩
  · rw [midB_far (by omega)]
    exact mv_far hn h2 hD hv hy (lt_neg hx) (.inr (by rw [Int.natAbs_neg]; exact hf))
  · rw [midB_near hk]
    rcases Int.lt_or_lt_of_ne hx.1 with xn | xp
    · rw [sgn_neg xn] at hs ⊢
      have yn : y < 0 := by
        rcases Int.lt_or_lt_of_ne hy.1 with h | h
        · exact h
        · rw [sgn_pos h] at hs; omega
      rw [sgn_neg yn]
      obtain ⟨i, hi, rfl⟩ := neg_of hx xn
      obtain ⟨j, hj, rfl⟩ := neg_of hy yn
      rw [Int.natAbs_neg, Int.natAbs_neg, ltr_abs, ltr_abs] at hk
      obtain rfl : j = i + 1 := by omega
      have e1 : -(-1 * ((((-ltr i).natAbs + 1 : Nat)) : Int)) = ltr (i + 1) := by rw [Int.natAbs_neg, ltr_abs]; unfold ltr; omega
      have e2 : (-1 : Int) * ((-ltr i).natAbs : Int) = -ltr i := by rw [Int.natAbs_neg, ltr_abs]; unfold ltr; omega
      have e3 : -1 * ((((-ltr i).natAbs + 1 : Nat)) : Int) = -ltr (i + 1) := by rw [Int.natAbs_neg, ltr_abs]; unfold ltr; omega
      rw [e1, e2, e3, Int.neg_neg]
      exact mv_high (r := r) hn h2 hD hv hj hi (.inr rfl)
    · rw [sgn_pos xp] at hs ⊢
      have yp : 0 < y := by
        rcases Int.lt_or_lt_of_ne hy.1 with h | h
        · rw [sgn_neg h] at hs; omega
        · exact h
      rw [sgn_pos yp]
      obtain ⟨i, hi, rfl⟩ := pos_of hx xp
      obtain ⟨j, hj, rfl⟩ := pos_of hy yp
      rw [ltr_abs, ltr_abs] at hk
      obtain rfl : j = i + 1 := by omega
      have e1 : -(1 * ((((ltr i).natAbs + 1 : Nat)) : Int)) = -ltr (i + 1) := by rw [ltr_abs]; unfold ltr; omega
      have e2 : (1 : Int) * ((ltr i).natAbs : Int) = ltr i := by rw [ltr_abs]; unfold ltr; omega
      have e3 : 1 * ((((ltr i).natAbs + 1 : Nat)) : Int) = ltr (i + 1) := by rw [ltr_abs]; unfold ltr; omega
      rw [e1, e2, e3]
      exact mv_low (r := r) hn h2 hD hv hj hi (.inr rfl)
theorem rw_chainR (hn : n ≤ 1000) (h2 : 2 ≤ n) (hD : IsUp n D (hf n)) {x : Int} (hx : LtB n x) (M : List Int) : ∀ v : List Int, LtW n v → LtW n M → (∀ y ∈ M, x.natAbs + 1 < y.natAbs ∨ (y.natAbs = x.natAbs + 1 ∧ y.sign = -x.sign)) → Rw n r D (v ++ x :: M) (v ++ (midW x M ++ [x])) := by
  induction M with
  | nil => exact fun v _ _ _ s _ => ⟨fun _ _ h => by simpa [midW] using h, fun h => by simpa [midW] using h⟩
  | cons y M ih =>
    intro v hv hM hf
    have hy := hM y (by simp)
    have hMM : LtW n M := fun z hz => hM z (by simp [hz])
    have lm := midB_lt hx hy
    have h1 := ((rw_R (r := r) hn h2 hD hv hx hy (hf y (by simp))).rw).post M
    have h3 := ih (v ++ midB x y) (hv.app lm) hMM fun z hz => hf z (by simp [hz])
    have e1 : (v ++ [x, y]) ++ M = v ++ x :: y :: M := by simp
    have e3 : (v ++ (midB x y ++ [x])) ++ M = (v ++ midB x y) ++ x :: M := by simp
    rw [e1, e3] at h1
    have h4 := h1.trans ((hv.app lm).app (lwc hx hMM)) h3
    rw [midW_cons]
    simpa using h4
theorem rw_chainL (hn : n ≤ 1000) (h2 : 2 ≤ n) (hD : IsUp n D (hf n)) {x : Int} (hx : LtB n x) (M : List Int) : ∀ v : List Int, LtW n v → LtW n M → (∀ y ∈ M, x.natAbs + 1 < y.natAbs ∨ (y.natAbs = x.natAbs + 1 ∧ y.sign = x.sign)) → Rw n r D (v ++ (M ++ [-x])) (v ++ ([-x] ++ midW x M)) := by
  induction M with
  | nil => exact fun v _ _ _ s _ => ⟨fun _ _ h => by simpa [midW] using h, fun h => by simpa [midW] using h⟩
  | cons y M ih =>
    intro v hv hM hf
    have hy := hM y (by simp)
    have hMM : LtW n M := fun z hz => hM z (by simp [hz])
    have h1 := ih (v ++ [y]) (hv.app (lw1 hy)) hMM fun z hz => hf z (by simp [hz])
    have h3 := ((rw_L (r := r) hn h2 hD hv hx hy (hf y (by simp))).rw).post (midW x M)
    have e1 : (v ++ [y]) ++ (M ++ [-x]) = v ++ (y :: M ++ [-x]) := by simp
    have e3 : (v ++ [y]) ++ ([-x] ++ midW x M) = (v ++ [y, -x]) ++ midW x M := by simp
    rw [e1, e3] at h1
    have h4 := h1.trans ((hv.app (lwc hy (lw1 (lt_neg hx)))).app (midW_lt hx hMM)) h3
    rw [midW_cons]
    simpa using h4
/-- A handle. -/
theorem rw_handle (hn : n ≤ 1000) (h2 : 2 ≤ n) (hD : IsUp n D (hf n)) {x : Int} (hx : LtB n x) {M v : List Int} (hv : LtW n v) (hM : LtW n M) (hi : ∀ y ∈ M, x.natAbs < y.natAbs) (ho : OneSign x M) : Rw n r D (v ++ (x :: M ++ [-x])) (v ++ midW x M) := by
  rcases near_of hi ho with hf | hf
  · have h1 := rw_chainL (r := r) hn h2 hD hx M (v ++ [x]) (hv.app (lw1 hx)) hM hf
    have h3 := (rw_cancel (r := r) hD (v := v) hx).post (midW x M)
    have e1 : (v ++ [x]) ++ (M ++ [-x]) = v ++ (x :: M ++ [-x]) := by simp
    have e3 : (v ++ [x]) ++ ([-x] ++ midW x M) = (v ++ [x, -x]) ++ midW x M := by simp
    rw [e1, e3] at h1
    exact h1.trans ((hv.app (lwc hx (lw1 (lt_neg hx)))).app (midW_lt hx hM)) h3
  · have h1 := (rw_chainR (r := r) hn h2 hD hx M v hv hM hf).post [-x]
    have h3 := rw_cancel (r := r) hD (v := v ++ midW x M) hx
    have e1 : (v ++ x :: M) ++ [-x] = v ++ (x :: M ++ [-x]) := by simp
    have e3 : (v ++ (midW x M ++ [x])) ++ [-x] = (v ++ midW x M) ++ [x, -x] := by simp
    rw [e1, e3] at h1
    exact h1.trans ((hv.app (midW_lt hx hM)).app (lwc hx (lw1 (lt_neg hx)))) h3
/-- Within a word. -/
theorem rw_handle' (hn : n ≤ 1000) (h2 : 2 ≤ n) (hD : IsUp n D (hf n)) {P M s : List Int} {x : Int} (l : LtW n (P ++ (x :: M ++ (-x) :: s))) (hM : ∀ y ∈ M, x.natAbs < y.natAbs) (ho : OneSign x M) :
    (∀ Y, LtW n Y → Bel n r D Y (P ++ (x :: M ++ (-x) :: s)) → Bel n r D Y (P ++ (midW x M ++ s))) ∧ (Rho n r D (P ++ (x :: M ++ (-x) :: s)) → Rho n r D (P ++ (midW x M ++ s))) := by
  have e : P ++ (x :: M ++ (-x) :: s) = P ++ (x :: M ++ [-x]) ++ s := by simp
  have lx : LtB n x := l x (by simp)
  have lM : LtW n M := fun z hz => l z (by simp [hz])
  rw [e] at l ⊢
  have := rw_handle (r := r) hn h2 hD lx l.left.left lM hM ho s l
  rwa [List.append_assoc P (midW x M) s] at this
end
end Go.Proofs.Ytnmklkjlcpgjmaa

namespace Go.Proofs.Ytnmklkjlcpgjmaa
open Go.RowKit Go.Sl

/-- The vertex that a label stands for. -/
def vy (k : Nat) (e : Int) (q : List Int) : List Int := q ++ [-(e * (k : Int))]
def vv (y : LL) : Option (List Int) := match y.2 with
  | some (k, e, q) => some (vy k e q)
  | none => none
section
variable {n l r : Nat} {D A B : List Int} {X : List (List Int)}
theorem repX_congr {v v' : List Int} (h : BE n v v') : repX n X v = repX n X v' := by
  have key : ∀ (p q : List Int → Prop) (hp : Decidable (∃ x, p x)) (hq : Decidable (∃ x, q x)), p = q → (if h : ∃ x, p x then h.choose else []) = (if h : ∃ x, q x then h.choose else ([] : List Int)) := by
    rintro p _ hp hq rfl
    by_cases hh : ∃ x, p x
    · rw [dif_pos hh, dif_pos hh]
    · rw [dif_neg hh, dif_neg hh]
  unfold repX
  refine key _ _ _ _ (funext fun x => propext ⟨fun ⟨h1, h2⟩ => ⟨h1, h.symm.trans h2⟩, fun ⟨h1, h2⟩ => ⟨h1, h.trans h2⟩⟩)
structure MachR (n l r : Nat) (D A B : List Int) (X : List (List Int)) (V : List Int) (R : List LL) : Prop extends Mach n l A B X V R where
  rho : Rho n r D (V ++ fsts R)
  bel : ∀ R1 z k e q R2, R = R1 ++ (z, some (k, e, q)) :: R2 → Bel n r D (vy k e q) (V ++ fsts R1)
  pair : (R.filterMap vv).Pairwise fun a b => LeB n b (a ++ powB (r : Int) D)
  inb : ∀ R1 z k e q R2, R = R1 ++ (z, some (k, e, q)) :: R2 → InB n A B (vy k e q) ∧ repX n X q = q

theorem MachR.ltv {V : List Int} {R : List LL} (h : MachR n l r D A B X V R) (hX : Cover n A B X) {R1 R2 : List LL} {z : Int} {k : Nat} {e : Int} {q : List Int} (er : R = R1 ++ (z, some (k, e, q)) :: R2) : LtW n (vy k e q) := by
  obtain ⟨⟨he, hq, h0, hk⟩, _⟩ := h.js R1 z k e q R2 er
  refine (hX.1 q hq).app (lw1 ?_)
  rcases he with rfl | rfl
  · exact ⟨by omega, by omega⟩
  · exact ⟨by omega, by omega⟩
theorem MachR.shift {V : List Int} {y : LL} {R : List LL} (h : MachR n l r D A B X V (y :: R)) (hz : ¬ closeAt V y.1) : MachR n l r D A B X (V ++ [y.1]) R := by
  have e : (V ++ [y.1]) ++ fsts R = V ++ fsts (y :: R) := by rw [fsts_cons]; simp
  refine ⟨h.toMach.shift hz, by rw [e]; exact h.rho, fun R1 z k ε q R2 er => ?_, ?_, fun R1 z k ε q R2 er => h.inb (y :: R1) z k ε q R2 (by rw [er]; rfl)⟩
  · have := h.bel (y :: R1) z k ε q R2 (by rw [er]; rfl)
    rw [fsts_cons] at this
    simpa using this
  · refine h.pair.sublist (List.Sublist.filterMap _ (List.sublist_cons_self y R))
theorem MachR.del (hn : n ≤ 1000) (h2 : 2 ≤ n) (hD : IsUp n D (hf n)) (hA : LtW n A) (hX : Cover n A B X) {V : List Int} {y y' : LL} {R1 R2 : List LL} (h : MachR n l r D A B X V (R1 ++ y :: y' :: R2)) (hy : y'.1 = -y.1) : MachR n l r D A B X V (R1 ++ R2) := by
  obtain ⟨x, hx⟩ : ∃ x, y.1 = x := ⟨_, rfl⟩
  have hy0 := hy
  rw [hx] at hy
  have e1 : V ++ fsts (R1 ++ y :: y' :: R2) = (V ++ fsts R1) ++ (x :: [] ++ (-x) :: fsts R2) := by rw [fsts_append, fsts_cons, fsts_cons, hx, hy]; simp
  have e2 : V ++ fsts (R1 ++ R2) = (V ++ fsts R1) ++ (midW x [] ++ fsts R2) := by rw [fsts_append]; simp [midW]
  have hl := h.lt
  have hr := h.rho
  rw [e1] at hl hr
  have hM : ∀ z ∈ ([] : List Int), x.natAbs < z.natAbs := fun z hz => by simp at hz
  have ho : OneSign x [] := .inl fun z hz => by simp at hz
  have old : ∀ S1 z k ε q S2, R1 ++ R2 = S1 ++ (z, some (k, ε, q)) :: S2 → (∃ u, R1 ++ y :: y' :: R2 = S1 ++ (z, some (k, ε, q)) :: u) ∨ ∃ u, S1 = R1 ++ u ∧ R2 = u ++ (z, some (k, ε, q)) :: S2 := by
    intro S1 z k ε q S2 er
    rcases app_casesL er with ⟨u, a1, a2⟩ | ⟨u, a1, a2⟩
    · cases u with
      | nil =>
        rw [List.nil_append] at a2
        rw [List.append_nil] at a1
        exact .inr ⟨[], by rw [a1]; simp, a2.symm⟩
      | cons t u =>
        obtain ⟨rfl, a3⟩ := List.cons.inj a2
        exact .inl ⟨u ++ y :: y' :: R2, by rw [a1]; simp⟩
    · exact .inr ⟨u, a1, a2⟩
  refine ⟨h.toMach.del hn h2 hA hy0, by rw [e2]; exact (rw_handle' (r := r) hn h2 hD hl hM ho).2 hr, fun S1 z k ε q S2 er => ?_, h.pair.sublist (List.Sublist.filterMap _ ?_), fun S1 z k ε q S2 er => ?_⟩
  · rcases old S1 z k ε q S2 er with ⟨u, hu⟩ | ⟨u, a1, a2⟩
    · exact h.bel S1 z k ε q u hu
    · have e5 : R1 ++ y :: y' :: R2 = (R1 ++ y :: y' :: u) ++ (z, some (k, ε, q)) :: S2 := by rw [a2]; simp
      have hb := h.bel _ z k ε q S2 e5
      have lv := h.ltv hX e5
      have e3 : V ++ fsts (R1 ++ y :: y' :: u) = (V ++ fsts R1) ++ (x :: [] ++ (-x) :: fsts u) := by rw [fsts_append, fsts_cons, fsts_cons, hx, hy]; simp
      rw [e3] at hb
      have lu : LtW n ((V ++ fsts R1) ++ (x :: [] ++ (-x) :: fsts u)) := by
        have e6 : (V ++ fsts R1) ++ (x :: [] ++ (-x) :: fsts R2) = ((V ++ fsts R1) ++ (x :: [] ++ (-x) :: fsts u)) ++ fsts ((z, some (k, ε, q)) :: S2) := by rw [a2, fsts_append]; simp
        rw [e6] at hl
        exact hl.left
      have := (rw_handle' (r := r) hn h2 hD lu hM ho).1 _ lv hb
      rw [a1, fsts_append]
      simpa [midW] using this
  · refine List.Sublist.append (List.Sublist.refl R1) ?_
    exact (List.sublist_cons_self y' R2).trans (List.sublist_cons_self y (y' :: R2))
  · rcases old S1 z k ε q S2 er with ⟨u, hu⟩ | ⟨u, a1, a2⟩
    · exact h.inb S1 z k ε q u hu
    · exact h.inb (R1 ++ y :: y' :: u) z k ε q S2 (by rw [a2]; simp)
/-- Where a new letter stands. -/
theorem newL_split {x : Int} (M : List Int) : ∀ pre S1 t u, newL n X x pre M = S1 ++ t :: u → ∃ M1 y M2 b1 b2, M = M1 ++ y :: M2 ∧ midB x y = b1 ++ t.1 :: b2 ∧ fsts S1 = midW x M1 ++ b1 ∧ t.2 = some (x.natAbs, x.sign, repX n X (pre ++ M1 ++ [y])) := by
  induction M with
  | nil => intro _ S1 t u h; simp [newL] at h
  | cons y M ih =>
    intro pre S1 t u h
    rw [newL] at h
    rcases app_casesL h with ⟨v, a1, a2⟩ | ⟨v, a1, a2⟩
    · cases v with
      | nil =>
        rw [List.nil_append] at a2
        rw [List.append_nil] at a1
        obtain ⟨M1, y', M2, b1, b2, e1, e2, e3, e4⟩ := ih (pre ++ [y]) [] t u (by rw [← a2]; rfl)
        refine ⟨y :: M1, y', M2, b1, b2, by rw [e1]; rfl, e2, ?_, by rw [e4]; simp⟩
        rw [midW_cons, List.append_assoc, ← e3, ← a1]
        simp [fsts, Function.comp_def]
      | cons s v =>
        obtain ⟨rfl, a3⟩ := List.cons.inj a2
        have h1 := congrArg fsts a1
        rw [fsts_append, fsts_cons] at h1
        have h3 : fsts ((midB x y).map fun z => (z, some (x.natAbs, x.sign, repX n X (pre ++ [y])))) = midB x y := by simp [fsts, Function.comp_def]
        rw [h3] at h1
        have ht : t ∈ (midB x y).map fun z => (z, some (x.natAbs, x.sign, repX n X (pre ++ [y]))) := by rw [a1]; simp
        obtain ⟨z, _, rfl⟩ := List.mem_map.1 ht
        exact ⟨[], y, M, fsts S1, fsts v, rfl, h1, by simp [midW], by simp⟩
    · obtain ⟨M1, y', M2, b1, b2, e1, e2, e3, e4⟩ := ih (pre ++ [y]) v t u a2
      refine ⟨y :: M1, y', M2, b1, b2, by rw [e1]; rfl, e2, ?_, by rw [e4]; simp⟩
      rw [a1, fsts_append, e3, midW_cons]
      simp [fsts, Function.comp_def]
theorem newL_pair {x : Int} {K : List Int} (M : List Int) : ∀ pre, (∀ a u b, M = a ++ u ++ b → LeB n (vy x.natAbs x.sign (repX n X (pre ++ a ++ u))) (vy x.natAbs x.sign (repX n X (pre ++ a)) ++ K)) → ((newL n X x pre M).filterMap vv).Pairwise fun a b => LeB n b (a ++ K) := by
  induction M with
  | nil => intro pre _; simp [newL]
  | cons y M ih =>
    intro pre H
    rw [newL, List.filterMap_append, List.pairwise_append]
    have hb : ∀ t ∈ ((midB x y).map fun z => ((z, some (x.natAbs, x.sign, repX n X (pre ++ [y]))) : LL)).filterMap vv, t = vy x.natAbs x.sign (repX n X (pre ++ [y])) := fun t ht => by
      obtain ⟨s, hs, e⟩ := List.mem_filterMap.1 ht
      obtain ⟨z, _, rfl⟩ := List.mem_map.1 hs
      simpa [vv] using e.symm
    refine ⟨?_, ih (pre ++ [y]) fun a u b e => ?_, fun a ha b hb2 => ?_⟩
    · refine List.pairwise_iff_forall_sublist.2 fun {a b} hs => ?_
      have ha := hb a (hs.subset (by simp))
      have hb3 := hb b (hs.subset (by simp))
      have := H [y] [] M (by simp)
      rw [ha, hb3]
      simpa using this
    · have := H (y :: a) u b (by rw [e]; simp)
      simpa using this
    · rw [hb a ha]
      obtain ⟨s, hs, e⟩ := List.mem_filterMap.1 hb2
      obtain ⟨M1, y', M2, e1, _, e3⟩ := newL_mem M _ s hs
      have e4 : b = vy x.natAbs x.sign (repX n X (pre ++ [y] ++ M1 ++ [y'])) := by
        unfold vv at e
        rw [e3] at e
        exact (Option.some.inj e).symm
      rw [e4]
      have := H [y] (M1 ++ [y']) M2 (by rw [e1]; simp)
      simpa using this
theorem MachR.red2 (hn : n ≤ 1000) (h2 : 2 ≤ n) (hD : IsUp n D (hf n)) (hA : LtW n A) (hX : Cover n A B X) {P M : List Int} {x : Int} {y : LL} {R : List LL} (h : MachR n l r D A B X (P ++ x :: M) (y :: R)) (hM : ∀ y ∈ M, x.natAbs < y.natAbs) (hy : y.1 = -x) :
    ∃ L, fsts L = midW x M ∧ MachR n l r D A B X P (L ++ R) ∧ muL n X (L ++ R) < muL n X (y :: R) ∧ L = newL n X x (P ++ [x]) M := by
  obtain ⟨L, hL, hm, hmu, hLn⟩ : ∃ L, fsts L = midW x M ∧ Mach n l A B X P (L ++ R) ∧ muL n X (L ++ R) < muL n X (y :: R) ∧ L = newL n X x (P ++ [x]) M := by
    obtain ⟨L, a, b, c, d⟩ := h.toMach.red2 hn h2 hA hX hM hy
    exact ⟨L, a, b, c, d⟩
  have e1 : (P ++ x :: M) ++ fsts (y :: R) = P ++ (x :: M ++ (-x) :: fsts R) := by rw [fsts_cons, hy]; simp
  have hl := h.lt
  have hr := h.rho
  rw [e1] at hl hr
  have lx : LtB n x := hl x (by simp)
  have lM : LtW n M := fun z hz => hl z (by simp [hz])
  have ho := oneSign_of_clean lx.1 h.cl hM
  have lV : LtW n (P ++ x :: M) := h.lt.left
  have dV : DrF n A B [] (P ++ x :: M) := h.dr.left
  have hrho := (rw_handle' (r := r) hn h2 hD hl hM ho).2 hr
  have hxs : -(x.sign * ((x.natAbs : Nat) : Int)) = -x := by rw [Int.sign_mul_natAbs]
  have vert : ∀ a b, M = a ++ b → LtW n (P ++ [x] ++ a) ∧ InB n A B (P ++ [x] ++ a) := fun a b e => by
    have e3 : P ++ x :: M = (P ++ [x] ++ a) ++ b := by rw [e]; simp
    exact ⟨by rw [e3] at lV; exact lV.left, by simpa using dV _ b e3⟩
  -- a label's vertex is a vertex of the new path
  have vyp : ∀ a b, M = a ++ b → BE n (vy x.natAbs x.sign (repX n X (P ++ [x] ++ a))) (P ++ midW x a) := fun a b e => by
    obtain ⟨v1, v2⟩ := vert a b e
    have h3 := ((hX.rep v1 v2).2.symm).post [-x]
    have lM' : LtW n a := fun z hz => lM z (by rw [e]; simp [hz])
    have h4 := ((midW_eq lx lM' fun z hz => hM z (by rw [e]; simp [hz])).pre P).post [-x]
    have h5 := cancelAt (v := P ++ midW x a) lx
    unfold vy
    rw [hxs]
    refine h3.trans ?_
    have h6 : BE n (P ++ [x] ++ a ++ [-x]) (P ++ (midW x a ++ [x]) ++ [-x]) := by simpa using h4
    refine h6.trans ?_
    simpa using h5
  have hrL : Rho n r D (P ++ fsts (L ++ R)) := by rw [fsts_append, hL]; exact hrho
  have dN := hm.dr
  have hbelOld : ∀ u z k ε q S2, R = u ++ (z, some (k, ε, q)) :: S2 → Bel n r D (vy k ε q) (P ++ (midW x M ++ fsts u)) := fun u z k ε q S2 a2 => by
    have e5 : y :: R = (y :: u) ++ (z, some (k, ε, q)) :: S2 := by rw [a2]; rfl
    have hb := h.bel _ z k ε q S2 e5
    have lv := h.ltv hX e5
    have e3 : (P ++ x :: M) ++ fsts (y :: u) = P ++ (x :: M ++ (-x) :: fsts u) := by rw [fsts_cons, hy]; simp
    rw [e3] at hb
    have lu : LtW n (P ++ (x :: M ++ (-x) :: fsts u)) := by
      have e6 : P ++ (x :: M ++ (-x) :: fsts R) = (P ++ (x :: M ++ (-x) :: fsts u)) ++ fsts ((z, some (k, ε, q)) :: S2) := by rw [a2, fsts_append]; simp
      rw [e6] at hl
      exact hl.left
    exact (rw_handle' (r := r) hn h2 hD lu hM ho).1 _ lv hb
  have split : ∀ S1 z k ε q S2, L ++ R = S1 ++ (z, some (k, ε, q)) :: S2 → (∃ u, L = S1 ++ (z, some (k, ε, q)) :: u) ∨ ∃ u, S1 = L ++ u ∧ R = u ++ (z, some (k, ε, q)) :: S2 := by
    intro S1 z k ε q S2 er
    rcases app_casesL er with ⟨u, a1, a2⟩ | ⟨u, a1, a2⟩
    · cases u with
      | nil =>
        rw [List.nil_append] at a2
        rw [List.append_nil] at a1
        exact .inr ⟨[], by rw [a1]; simp, a2.symm⟩
      | cons t u =>
        obtain ⟨rfl, a3⟩ := List.cons.inj a2
        exact .inl ⟨u, a1⟩
    · exact .inr ⟨u, a1, a2⟩
  refine ⟨L, hL, ⟨hm, hrL, fun S1 z k ε q S2 er => ?_, ?_, fun S1 z k ε q S2 er => ?_⟩, hmu, hLn⟩
  · rcases split S1 z k ε q S2 er with ⟨u, hu⟩ | ⟨u, a1, a2⟩
    · obtain ⟨M1, y', M2, b1, b2, e2, e3, e4, e5⟩ := newL_split M (P ++ [x]) S1 _ u (hLn.symm.trans hu)
      simp only [Option.some.injEq, Prod.mk.injEq] at e5
      obtain ⟨rfl, rfl, rfl⟩ := e5
      have hv := vyp (M1 ++ [y']) M2 (by rw [e2]; simp)
      rw [← List.append_assoc] at hv
      have hb : Bel n r D (P ++ midW x (M1 ++ [y'])) (P ++ midW x (M1 ++ [y'])) := by
        refine hrho _ (midW x M2 ++ fsts R) ?_
        rw [e2, show M1 ++ y' :: M2 = (M1 ++ [y']) ++ M2 by simp, midW_append]
        simp
      have e6 : P ++ midW x (M1 ++ [y']) = (P ++ fsts S1) ++ (z :: b2) := by
        rw [e4, midW_append, midW_cons, e3]
        simp [midW]
      rw [e6] at hb
      refine hb.left.congr ?_
      rw [← e6]
      exact hv.symm
    · have := hbelOld u z k ε q S2 a2
      rw [a1, fsts_append, hL]
      exact this
  · rw [List.filterMap_append, List.pairwise_append]
    refine ⟨?_, h.pair.sublist (List.Sublist.filterMap _ (List.sublist_cons_self y R)), fun a ha b hb => ?_⟩
    · rw [hLn]
      refine newL_pair M (P ++ [x]) fun a u b e => ?_
      have h3 := vyp a (u ++ b) (by rw [e]; simp)
      have h4 := vyp (a ++ u) b e
      rw [← List.append_assoc] at h4
      have h5 : LeB n ((P ++ midW x a) ++ midW x u) ((P ++ midW x a) ++ powB (r : Int) D) := by
        refine Rho.le (c := midW x b ++ fsts R) ?_
        have e7 : P ++ midW x a ++ midW x u ++ (midW x b ++ fsts R) = P ++ (midW x M ++ fsts R) := by rw [e, midW_append, midW_append]; simp
        rw [e7]; exact hrho
      refine h5.congr ?_ (h3.symm.post _)
      have : (P ++ midW x a) ++ midW x u = P ++ midW x (a ++ u) := by rw [midW_append]; simp
      rw [this]
      exact h4.symm
    · obtain ⟨s, hs, e⟩ := List.mem_filterMap.1 ha
      obtain ⟨t, ht, e'⟩ := List.mem_filterMap.1 hb
      rw [hLn] at hs
      obtain ⟨M1, y', M2, e2, _, e3⟩ := newL_mem M _ s hs
      have ea : a = vy x.natAbs x.sign (repX n X (P ++ [x] ++ M1 ++ [y'])) := by
        unfold vv at e
        rw [e3] at e
        exact (Option.some.inj e).symm
      rcases t with ⟨z, _ | ⟨k, ε, q⟩⟩
      · simp [vv] at e'
      · have eb : b = vy k ε q := (Option.some.inj e').symm
        obtain ⟨u, S2, er⟩ := List.append_of_mem ht
        have h3 := hbelOld u z k ε q S2 er (P ++ midW x (M1 ++ [y'])) (midW x M2 ++ fsts u) (by
          rw [e2, show M1 ++ y' :: M2 = (M1 ++ [y']) ++ M2 by simp, midW_append]; simp)
        have hv := vyp (M1 ++ [y']) M2 (by rw [e2]; simp)
        rw [← List.append_assoc] at hv
        rw [ea, eb]
        exact h3.congr (.refl _) (hv.symm.post _)
  · rcases split S1 z k ε q S2 er with ⟨u, hu⟩ | ⟨u, a1, a2⟩
    · obtain ⟨M1, y', M2, b1, b2, e2, e3, e4, e5⟩ := newL_split M (P ++ [x]) S1 _ u (hLn.symm.trans hu)
      simp only [Option.some.injEq, Prod.mk.injEq] at e5
      obtain ⟨rfl, rfl, rfl⟩ := e5
      have hv := vyp (M1 ++ [y']) M2 (by rw [e2]; simp)
      rw [← List.append_assoc] at hv
      have e5 : M = (M1 ++ [y']) ++ M2 := by rw [e2]; simp
      refine ⟨?_, ?_⟩
      · refine InB.congr (v := P ++ midW x (M1 ++ [y'])) ?_ hv.symm
        have := dN (P ++ midW x (M1 ++ [y'])) (midW x M2 ++ fsts R) (by rw [fsts_append, hL, e2, show M1 ++ y' :: M2 = (M1 ++ [y']) ++ M2 by simp, midW_append]; simp)
        simpa using this
      · obtain ⟨v1, v2⟩ := vert _ _ e5
        rw [← List.append_assoc] at v1 v2
        exact (repX_congr (hX.rep v1 v2).2).symm
    · exact h.inb (y :: u) z k ε q S2 (by rw [a2]; rfl)
theorem MachR.red (hn : n ≤ 1000) (h2 : 2 ≤ n) (hD : IsUp n D (hf n)) (hA : LtW n A) (hX : Cover n A B X) {P M : List Int} {x : Int} {y : LL} {R : List LL} (h : MachR n l r D A B X (P ++ x :: M) (y :: R)) (hM : ∀ y ∈ M, x.natAbs < y.natAbs) (hy : y.1 = -x) :
    ∃ L, fsts L = midW x M ∧ MachR n l r D A B X P (L ++ R) ∧ muL n X (L ++ R) < muL n X (y :: R) := by
  obtain ⟨L, a, b, c, _⟩ := h.red2 hn h2 hD hA hX hM hy
  exact ⟨L, a, b, c⟩
end
end Go.Proofs.Ytnmklkjlcpgjmaa

namespace Go.Proofs.Ytnmklkjlcpgjmaa
open Go.RowKit Go.Sl

section
variable {n l r : Nat} {D A B : List Int} {X : List (List Int)}
/-- A word on the way: the measure is at most m. -/
def OnWayR (n l r : Nat) (D A B : List Int) (X : List (List Int)) (w : List Int) (m : Nat) : Prop := ∃ V R, V ++ fsts R = w ∧ MachR n l r D A B X V R ∧ muL n X R ≤ m
theorem OnWayR.lt {w : List Int} {m : Nat} (h : OnWayR n l r D A B X w m) : LtW n w := by
  obtain ⟨V, R, rfl, hm, _⟩ := h
  exact hm.toMach.lt
/-- A pair that cancels. -/
theorem OnWayR.del (hn : n ≤ 1000) (h2 : 2 ≤ n) (hD : IsUp n D (hf n)) (hA : LtW n A) (hX : Cover n A B X) {a b : List Int} {x : Int} {m : Nat} (h : OnWayR n l r D A B X (a ++ x :: (-x) :: b) m) : OnWayR n l r D A B X (a ++ b) m := by
  obtain ⟨V, R, e, hm, hmu⟩ := h
  rcases app_cases e with ⟨u, e1, e2⟩ | ⟨u, e1, e2⟩
  · -- V = a ++ u
    rcases u with _ | ⟨t, _ | ⟨t', u⟩⟩
    · rw [List.append_nil] at e1
      rw [List.nil_append] at e2
      obtain ⟨y, R2, rfl, hy, e3⟩ := fsts_cons_split e2.symm
      obtain ⟨y', R3, rfl, hy', e4⟩ := fsts_cons_split e3
      have h3 := MachR.del hn h2 hD hA hX (R1 := []) hm (by rw [hy', hy])
      have h4 := mu_del (n := n) (X := X) y y' [] R3
      exact ⟨V, R3, by rw [e1, e4], h3, by simp only [List.nil_append] at h4; omega⟩
    · rw [List.cons_append, List.nil_append] at e2
      obtain ⟨rfl, e3⟩ := List.cons.inj e2
      obtain ⟨y, R2, rfl, hy, e4⟩ := fsts_cons_split e3.symm
      rw [e1] at hm
      obtain ⟨L, hL, h3, h4⟩ := MachR.red hn h2 hD hA hX (M := []) hm (fun z hz => by simp at hz) hy
      have : L = [] := by
        cases L with
        | nil => rfl
        | cons _ _ => simp [fsts, midW] at hL
      subst this
      exact ⟨a, R2, by rw [e4], by simpa using h3, by simp only [List.nil_append] at h4; omega⟩
    · exfalso
      rw [List.cons_append, List.cons_append] at e2
      obtain ⟨rfl, e3⟩ := List.cons.inj e2
      obtain ⟨rfl, e4⟩ := List.cons.inj e3
      refine hm.cl (a ++ [x]) (-x) u (by rw [e1]; simp) ⟨a, [], by rw [Int.neg_neg], fun z hz => by simp at hz⟩
  · -- a = V ++ u
    obtain ⟨R1, R2, rfl, e3, e4⟩ := fsts_split e2
    obtain ⟨y, R3, rfl, hy, e5⟩ := fsts_cons_split e4
    obtain ⟨y', R4, rfl, hy', e6⟩ := fsts_cons_split e5
    have h3 := MachR.del hn h2 hD hA hX hm (by rw [hy', hy])
    have h4 := mu_del (n := n) (X := X) y y' R1 R4
    exact ⟨V, R1 ++ R4, by rw [fsts_append, e3, e6, e1]; simp, h3, by omega⟩
/-- The reduced word. -/
theorem OnWayR.redL (hn : n ≤ 1000) (h2 : 2 ≤ n) (hD : IsUp n D (hf n)) (hA : LtW n A) (hX : Cover n A B X) {w : List Int} {m : Nat} (h : OnWayR n l r D A B X w m) : OnWayR n l r D A B X (redL w) m := by
  have key : ∀ (b s : List Int), OnWayR n l r D A B X (s.reverse ++ b) m → OnWayR n l r D A B X ((act s b).reverse) m := by
    intro b
    induction b with
    | nil => intro s h; simpa [act] using h
    | cons x b ih =>
      intro s h
      show OnWayR n l r D A B X ((act (psh s x) b).reverse) m
      refine ih _ ?_
      cases s with
      | nil => simpa [psh] using h
      | cons y t =>
        have ep : psh (y :: t) x = if y = -x then t else x :: y :: t := rfl
        rw [ep]
        by_cases hy : y = -x
        · rw [if_pos hy]
          subst hy
          have e : (-x :: t).reverse ++ x :: b = t.reverse ++ (-x) :: (- -x) :: b := by simp
          rw [e] at h
          exact h.del hn h2 hD hA hX
        · rw [if_neg hy]
          simpa using h
  have := key w [] (by simpa using h)
  exact this
/-- A handle. -/
theorem OnWayR.handle (hn : n ≤ 1000) (h2 : 2 ≤ n) (hD : IsUp n D (hf n)) (hA : LtW n A) (hX : Cover n A B X) {P M s : List Int} {x : Int} {m : Nat} (h : OnWayR n l r D A B X (P ++ x :: M ++ (-x) :: s) m) (hc : Clean (P ++ x :: M)) (hM : ∀ y ∈ M, x.natAbs < y.natAbs) : 0 < m ∧ OnWayR n l r D A B X (P ++ (midW x M ++ s)) (m - 1) := by
  obtain ⟨V, R, e, hm, hmu⟩ := h
  have cl : closeAt (P ++ x :: M) (-x) := ⟨P, M, by rw [Int.neg_neg], fun y hy => by rw [Int.natAbs_neg]; exact hM y hy⟩
  -- V is a part of P ++ x :: M
  have hpre : ∃ u, P ++ x :: M = V ++ u ∧ fsts R = u ++ (-x) :: s := by
    rcases app_cases e with ⟨u, e1, e2⟩ | ⟨u, e1, e2⟩
    · cases u with
      | nil => exact ⟨[], by rw [e1]; simp, by rw [List.nil_append] at e2 ⊢; exact e2.symm⟩
      | cons t u =>
        exfalso
        rw [List.cons_append] at e2
        obtain ⟨rfl, _⟩ := List.cons.inj e2
        exact hm.cl _ _ _ e1 cl
    · exact ⟨u, e1, e2⟩
  obtain ⟨u, e1, e2⟩ := hpre
  -- the letters ahead are passed
  have pass : ∀ (u V : List Int) (R : List LL), MachR n l r D A B X V R → P ++ x :: M = V ++ u → fsts R = u ++ (-x) :: s → ∃ R', MachR n l r D A B X (P ++ x :: M) R' ∧ fsts R' = (-x) :: s ∧ muL n X R' ≤ muL n X R := by
    intro u
    induction u with
    | nil =>
      intro V R hm e1 e2
      rw [List.append_nil] at e1
      exact ⟨R, by rw [e1]; exact hm, e2, Nat.le_refl _⟩
    | cons t u ih =>
      intro V R hm e1 e2
      obtain ⟨y, R2, rfl, hy, e3⟩ := fsts_cons_split e2
      have hno : ¬ closeAt V y.1 := by
        rw [hy]
        exact hc V t u e1
      have h3 := hm.shift hno
      rw [hy] at h3
      obtain ⟨R', h4, h5, h6⟩ := ih (V ++ [t]) R2 h3 (by rw [e1]; simp) e3
      have := mu_shift (n := n) (X := X) y R2
      exact ⟨R', h4, h5, by omega⟩
  obtain ⟨R', h3, h4, h5⟩ := pass u V R hm e1 e2
  obtain ⟨y, R2, rfl, hy, e3⟩ := fsts_cons_split h4
  obtain ⟨L, hL, h6, h7⟩ := MachR.red hn h2 hD hA hX h3 hM hy
  exact ⟨by omega, P, L ++ R2, by rw [fsts_append, hL, e3], h6, by omega⟩
/-- The start. -/
theorem OnWayR.start (_hD : IsUp n D (hf n)) {w : List Int} (hw : LtW n w) (hd : DrF n A B [] w) (hl : w.length ≤ l) (hr : Rho n r D w) : ∃ m, OnWayR n l r D A B X w m := by
  obtain ⟨R, hR⟩ : ∃ R : List LL, R = w.map fun z => (z, none) := ⟨_, rfl⟩
  have hf : fsts R = w := by rw [hR]; simp [fsts, Function.comp_def]
  have hno : ∀ R1 z k e q R2, R = R1 ++ (z, some (k, e, q)) :: R2 → False := fun R1 z k e q R2 er => by
    have : (z, some (k, e, q)) ∈ R := by rw [er]; simp
    rw [hR] at this
    obtain ⟨t, _, ht⟩ := List.mem_map.1 this
    simp at ht
  have h0 : R.filterMap vv = [] := by
    rw [hR, List.filterMap_map]
    exact List.filterMap_eq_nil_iff.2 fun z _ => rfl
  refine ⟨_, [], R, by rw [hf]; rfl, ⟨⟨by rw [hf]; exact hw, by rw [hf]; exact hd, clean_nil, fun R1 z k e q R2 er => (hno R1 z k e q R2 er).elim, fun k q => ?_, ?_⟩, by rw [hf]; exact hr, fun R1 z k e q R2 er => (hno R1 z k e q R2 er).elim, by rw [h0]; exact List.Pairwise.nil, fun R1 z k e q R2 er => (hno R1 z k e q R2 er).elim⟩, Nat.le_refl _⟩
  · have : R.countP (isLab k q) = 0 := List.countP_eq_zero.2 fun t ht hs => by
      rw [hR] at ht
      obtain ⟨z, _, rfl⟩ := List.mem_map.1 ht
      simp [isLab] at hs
    omega
  · have := List.countP_le_length (p := fun y : LL => y.2.isNone) (l := R)
    rw [hR, List.length_map] at this
    rw [hR]; omega

/-- At most M vertices on one path. -/
def Few (n r : Nat) (D A B : List Int) (M : Nat) : Prop := ∀ Z : List (List Int), (∀ z ∈ Z, LtW n z ∧ InB n A B z ∧ LeB n z (powB (r : Int) D)) → Z.Pairwise (fun a b => ¬ BE n a b) → Z.Pairwise (fun a b => LeB n b (a ++ powB (r : Int) D)) → Z.length ≤ M
theorem take_pair {V : List Int} (f : List Int → List Int → Prop) (h : ∀ i j, i < j → j < V.length → f (V.take (i + 1)) (V.take (j + 1))) : ((List.range V.length).map fun i => V.take (i + 1)).Pairwise f := by
  refine List.pairwise_map.2 (List.pairwise_iff_forall_sublist.2 fun {i j} hs => ?_)
  have hij : i < j := List.pairwise_iff_forall_sublist.1 (List.pairwise_lt_range (n := V.length)) hs
  exact h i j hij (List.mem_range.1 (hs.subset (by simp)))
theorem take_cut {V : List Int} {i j : Nat} (h : i < j) : V.take (j + 1) = V.take (i + 1) ++ (V.take (j + 1)).drop (i + 1) := by
  have := (List.take_append_drop (i + 1) (V.take (j + 1))).symm
  rwa [List.take_take, Nat.min_eq_left (by omega)] at this
/-- A path without handles. -/
theorem clean_few {M : Nat} (hF : Few n r D A B M) {V : List Int} (hV : Clean V) (lV : LtW n V) (dV : DrF n A B [] V) (hr : Rho n r D V) : V.length ≤ M := by
  have := hF ((List.range V.length).map fun i => V.take (i + 1)) (fun z hz => ?_) (take_pair _ fun i j hij hj hb => ?_) (take_pair _ fun i j hij hj => ?_)
  · simpa using this
  · obtain ⟨i, _, rfl⟩ := List.mem_map.1 hz
    refine ⟨fun z hz => lV z (List.mem_of_mem_take hz), by simpa using dV (V.take (i + 1)) (V.drop (i + 1)) (List.take_append_drop _ V).symm, ?_⟩
    have := hr (V.take (i + 1)) (V.drop (i + 1)) (List.take_append_drop _ V).symm [] (V.take (i + 1)) rfl
    simpa using this
  · have e2 := take_cut (V := V) hij
    rw [e2] at hb
    refine clean_apart hV lV (p := V.take (i + 1)) (u := (V.take (j + 1)).drop (i + 1)) (r := V.drop (j + 1)) ?_ ?_ hb
    · rw [← e2, List.take_append_drop]
    · intro h0
      have := congrArg List.length h0
      simp at this; omega
  · have e2 := take_cut (V := V) hij
    exact hr (V.take (j + 1)) (V.drop (j + 1)) (List.take_append_drop _ V).symm (V.take (i + 1)) _ e2
/-- Each label three times at most: a part with different labels. -/
theorem dedup {α β : Type} [DecidableEq β] (f : α → β) : ∀ (m : Nat) (R : List α), R.length ≤ m → (∀ b, R.countP (fun a => decide (f a = b)) ≤ 3) → ∃ S, List.Sublist S R ∧ S.Pairwise (fun a b => f a ≠ f b) ∧ R.length ≤ 3 * S.length := by
  intro m
  induction m with
  | zero =>
    intro R hR _
    obtain rfl := List.eq_nil_of_length_eq_zero (show R.length = 0 by omega)
    exact ⟨[], List.Sublist.refl _, List.Pairwise.nil, by simp⟩
  | succ m ih =>
    intro R hR h
    cases R with
    | nil => exact ⟨[], List.Sublist.refl _, List.Pairwise.nil, by simp⟩
    | cons a R =>
      obtain ⟨R', hR'⟩ : ∃ R', R' = R.filter (fun x => decide (f x ≠ f a)) := ⟨_, rfl⟩
      have hsub : List.Sublist R' R := by rw [hR']; exact List.filter_sublist
      have hlen : R'.length ≤ m := by have := hsub.length_le; simp at hR; omega
      obtain ⟨S, h1, h2, h3⟩ := ih R' hlen fun b => Nat.le_trans ((hsub.trans (List.sublist_cons_self a R)).countP_le) (h b)
      refine ⟨a :: S, List.Sublist.cons_cons a (h1.trans hsub), List.pairwise_cons.2 ⟨fun b hb => ?_, h2⟩, ?_⟩
      · have := h1.subset hb
        rw [hR'] at this
        have := (List.mem_filter.1 this).2
        simp only [decide_eq_true_eq] at this
        exact fun e => this e.symm
      · have hc := h (f a)
        rw [List.countP_cons] at hc
        simp only [decide_true, if_true] at hc
        have hs : R.length = R.countP (fun x => decide (f x = f a)) + R'.length := by
          rw [hR', ← List.countP_eq_length_filter]
          rw [List.length_eq_countP_add_countP (fun x => decide (f x = f a))]
          congr 1
          refine List.countP_congr fun x _ => ?_
          simp
        simp only [List.length_cons]
        omega
def isKE (k : Nat) (e : Int) (y : LL) : Bool := match y.2 with
  | some (k', e', _) => decide (k' = k ∧ e' = e)
  | none => false
theorem isKE_iff {k : Nat} {e : Int} {y : LL} : isKE k e y = true ↔ ∃ q, y.2 = some (k, e, q) := by
  unfold isKE
  rcases y with ⟨z, _ | ⟨k', e', q⟩⟩
  · simp
  · simp only [decide_eq_true_eq, Option.some.injEq, Prod.mk.injEq]
    exact ⟨fun ⟨h1, h2⟩ => ⟨q, h1, h2, rfl⟩, fun ⟨_, h1, h2, _⟩ => ⟨h1, h2⟩⟩
def labQ (y : LL) : List Int := match y.2 with
  | some (_, _, q) => q
  | none => []
/-- The pending letters with labels of one index and sign. -/
theorem MachR.labels (hX : Cover n A B X) {M : Nat} (hF : Few n r D A B M) {V : List Int} {R : List LL} (h : MachR n l r D A B X V R) (k : Nat) (e : Int) : R.countP (isKE k e) ≤ 3 * M := by
  obtain ⟨R', hR'⟩ : ∃ R', R' = R.filter (isKE k e) := ⟨_, rfl⟩
  have hsub : List.Sublist R' R := by rw [hR']; exact List.filter_sublist
  have hmem : ∀ y ∈ R', ∃ q, y.2 = some (k, e, q) := fun y hy => by
    rw [hR'] at hy
    exact isKE_iff.1 (List.mem_filter.1 hy).2
  obtain ⟨S, hS, hd, hl⟩ := dedup labQ R'.length R' (Nat.le_refl _) fun b => by
    refine Nat.le_trans ?_ (h.ct k b)
    refine Nat.le_trans (List.countP_mono_left (p := fun a => decide (labQ a = b)) (q := isLab k b) fun y hy hq => ?_) hsub.countP_le
    obtain ⟨q, hq2⟩ := hmem y hy
    rw [decide_eq_true_eq] at hq
    have hq3 : q = b := by simpa [labQ, hq2] using hq
    exact isLab_iff.2 ⟨e, by rw [hq2, hq3]⟩
  rw [List.countP_eq_length_filter, ← hR']
  refine Nat.le_trans hl (Nat.mul_le_mul_left 3 ?_)
  have hSm : ∀ y ∈ S, y.2 = some (k, e, labQ y) := fun y hy => by
    obtain ⟨q, hq⟩ := hmem y (hS.subset hy)
    unfold labQ
    rw [hq]
  have hfm : S.filterMap vv = S.map fun y => vy k e (labQ y) := by
    have : ∀ (T : List LL), (∀ y ∈ T, y.2 = some (k, e, labQ y)) → T.filterMap vv = T.map fun y => vy k e (labQ y) := by
      intro T
      induction T with
      | nil => intro _; rfl
      | cons y T ih =>
        intro hT
        have h1 : vv y = some (vy k e (labQ y)) := by
          unfold vv
          rw [hT y (by simp)]
        rw [List.filterMap_cons, h1, List.map_cons, ih fun z hz => hT z (by simp [hz])]
    exact this S hSm
  have facts : ∀ y ∈ S, LtW n (vy k e (labQ y)) ∧ InB n A B (vy k e (labQ y)) ∧ LeB n (vy k e (labQ y)) (powB (r : Int) D) ∧ repX n X (labQ y) = labQ y ∧ LtW n [-(e * (k : Int))] := fun y hy => by
    obtain ⟨R1, R2, er⟩ := List.append_of_mem (hsub.subset (hS.subset hy))
    have hy2 := hSm y hy
    have er2 : R = R1 ++ (y.1, some (k, e, labQ y)) :: R2 := by rw [er, ← hy2]
    obtain ⟨i1, i2⟩ := h.inb _ _ _ _ _ _ er2
    have b := h.bel _ _ _ _ _ _ er2 [] (V ++ fsts R1) rfl
    have l := h.ltv hX er2
    exact ⟨l, i1, by simpa using b, i2, l.right⟩
  have := hF (S.map fun y => vy k e (labQ y)) (fun z hz => ?_) ?_ ?_
  · simpa using this
  · obtain ⟨y, hy, rfl⟩ := List.mem_map.1 hz
    obtain ⟨a, b, c, _⟩ := facts y hy
    exact ⟨a, b, c⟩
  · refine List.pairwise_map.2 (List.Pairwise.imp_of_mem (fun {a b} ha hb hab hbe => hab ?_) hd)
    obtain ⟨_, _, _, ra, la⟩ := facts a ha
    obtain ⟨_, _, _, rb, _⟩ := facts b hb
    have h3 : BE n (labQ a) (labQ b) := hbe.cancelR la
    rw [← ra, ← rb]
    exact repX_congr h3
  · rw [← hfm]
    exact h.pair.sublist (List.Sublist.filterMap _ (hS.trans hsub))
theorem sum_leN {α : Type} {P : List α} {f : α → Nat} {c : Nat} (h : ∀ p, f p ≤ c) : (P.map f).sum ≤ P.length * c := by
  induction P with
  | nil => simp
  | cons p P ih => have := h p; rw [List.map_cons, List.sum_cons, List.length_cons, Nat.succ_mul]; omega
theorem count_cover {α : Type} {R : List LL} {P : List α} (f : α → LL → Bool) (h : ∀ y ∈ R, y.2.isSome → ∃ p ∈ P, f p y = true) : R.countP (fun y => y.2.isSome) ≤ (P.map fun p => R.countP (f p)).sum := by
  induction R with
  | nil => simp
  | cons y R ih =>
    have h1 := ih fun z hz => h z (by simp [hz])
    have e : (P.map fun p => (y :: R).countP (f p)).sum = (P.map fun p => if f p y = true then 1 else 0).sum + (P.map fun p => R.countP (f p)).sum := by
      clear h h1 ih
      induction P with
      | nil => rfl
      | cons p P ih2 =>
        have e1 : (y :: R).countP (f p) = R.countP (f p) + (if f p y = true then 1 else 0) := List.countP_cons
        rw [List.map_cons, List.sum_cons, List.map_cons, List.sum_cons, List.map_cons, List.sum_cons, ih2, e1]
        generalize (if f p y = true then 1 else 0) = a
        omega
    rw [e, List.countP_cons]
    split
    · rename_i hs
      obtain ⟨p, hp, hl⟩ := h y (by simp) hs
      have : 1 ≤ (P.map fun p => if f p y = true then 1 else 0).sum := by
        clear h h1 ih e
        induction P with
        | nil => simp at hp
        | cons q P ih2 =>
          simp only [List.map_cons, List.sum_cons]
          rcases List.mem_cons.1 hp with rfl | hp
          · rw [if_pos hl]; omega
          · have := ih2 hp; omega
      omega
    · omega
/-- No word on the way is long. -/
theorem MachR.len (hX : Cover n A B X) {M : Nat} (hF : Few n r D A B M) {V : List Int} {R : List LL} (h : MachR n l r D A B X V R) : (V ++ fsts R).length ≤ M + (l + (n - 2) * 2 * (3 * M)) := by
  have h1 := clean_few hF h.cl h.toMach.lt.left h.toMach.dr.left h.rho.left
  have h2 : R.countP (fun y => y.2.isSome) ≤ (n - 2) * 2 * (3 * M) := by
    obtain ⟨P, hP⟩ : ∃ P : List (Nat × Int), P = (List.range' 1 (n - 2)).flatMap fun k => [(k, 1), (k, -1)] := ⟨_, rfl⟩
    have h3 := count_cover (R := R) (P := P) (fun p => isKE p.1 p.2) fun y hy hs => by
      obtain ⟨R1, R2, e⟩ := List.append_of_mem hy
      rcases y with ⟨z, _ | ⟨k, e', q⟩⟩
      · simp at hs
      · obtain ⟨⟨he, hq, hk, hkn⟩, _⟩ := h.js R1 z k e' q R2 e
        refine ⟨(k, e'), ?_, isKE_iff.2 ⟨q, rfl⟩⟩
        rw [hP]
        refine List.mem_flatMap.2 ⟨k, List.mem_range'_1.2 ⟨by omega, by omega⟩, ?_⟩
        rcases he with rfl | rfl <;> simp
    have h4 := sum_leN (P := P) (f := fun p => R.countP (isKE p.1 p.2)) fun p => h.labels hX hF p.1 p.2
    have h5 : P.length = (n - 2) * 2 := by
      rw [hP]
      have : ∀ (L : List Nat), (L.flatMap fun k => [(k, (1 : Int)), (k, -1)]).length = L.length * 2 := by
        intro L
        induction L with
        | nil => simp
        | cons a L ih => rw [List.flatMap_cons, List.length_append, ih, List.length_cons]; simp; omega
      rw [this, List.length_range']
    rw [h5] at h4
    omega
  have h6 : R.length = R.countP (fun y => y.2.isNone) + R.countP (fun y => y.2.isSome) := by
    clear h h1 h2
    induction R with
    | nil => rfl
    | cons y R ih =>
      rw [List.length_cons, List.countP_cons, List.countP_cons, ih]
      rcases y with ⟨z, _ | L⟩ <;> simp <;> omega
  have h7 := h.nn
  rw [List.length_append, show (fsts R).length = R.length by simp [fsts]]
  omega
theorem OnWayR.len (hX : Cover n A B X) {M : Nat} (hF : Few n r D A B M) {w : List Int} {m : Nat} (h : OnWayR n l r D A B X w m) : w.length ≤ M + (l + (n - 2) * 2 * (3 * M)) := by
  obtain ⟨V, R, rfl, hm, _⟩ := h
  exact hm.len hX hF
end
end Go.Proofs.Ytnmklkjlcpgjmaa

namespace Go.Proofs.Ytnmklkjlcpgjmaa
open Go.RowKit Go.Sl

/-! ### All permutations -/
def insP (x : Int) : List Int → List (List Int)
  | [] => [[x]]
  | y :: t => (x :: y :: t) :: (insP x t).map (y :: ·)
def permsP : List Int → List (List Int)
  | [] => [[]]
  | x :: l => (permsP l).flatMap (insP x)
theorem mem_insP (x : Int) (s t : List Int) : s ++ x :: t ∈ insP x (s ++ t) := by
  induction s with
  | nil => cases t <;> simp [insP]
  | cons y s ih => simp only [List.cons_append, insP, List.mem_cons, List.mem_map]; exact .inr ⟨_, ih, rfl⟩
theorem mem_permsP : ∀ (l a : List Int), a.Perm l → a ∈ permsP l := by
  intro l
  induction l with
  | nil => intro a h; rw [h.eq_nil]; simp [permsP]
  | cons x l ih =>
    intro a h
    obtain ⟨s, t, rfl⟩ := List.append_of_mem (h.mem_iff.2 (List.mem_cons_self))
    have h2 : (s ++ t).Perm l := List.Perm.cons_inv ((List.perm_middle.symm).trans h)
    exact List.mem_flatMap.2 ⟨s ++ t, ih _ h2, mem_insP x s t⟩
def allP (n : Nat) : List (List Int) := permsP (iota n)
theorem mem_allP {n : Nat} {a : List Int} (h : Pn n a) : a ∈ allP n := by
  refine mem_permsP _ _ ?_
  have := h.perm.1
  rwa [h.len] at this

/-! ### Tight sequences -/
abbrev Msk := List Bool
/-- The crossings that may be taken away in front; those that may not be added behind. -/
def ldP (n : Nat) (a : List Int) : Msk := (List.range (n - 1)).map fun i => decide (nth a (i + 1) < nth a i)
def rdP (n : Nat) (a : List Int) : Msk := ldP n (backL a)
def subM (a b : Msk) : Bool := (a.zip b).all fun p => !p.1 || p.2
theorem ld_sub {n : Nat} {a b : List Int} (h : ∀ i, i + 1 < n → dn b i → dn (backL a) i) : subM (ldP n b) (rdP n a) = true := by
  unfold subM rdP ldP
  rw [List.zip_map', List.all_map, List.all_eq_true]
  intro i hi
  have hi := List.mem_range.1 hi
  simp only [Function.comp]
  by_cases hb : nth b (i + 1) < nth b i
  · have := h i (by omega) hb
    unfold dn at this
    rw [decide_eq_true this]; simp
  · rw [decide_eq_false hb]; rfl
def fullM (n : Nat) : Msk := (List.range (n - 1)).map fun _ => true
theorem sub_full (n : Nat) (a : List Int) : subM (ldP n a) (fullM n) = true := by
  unfold subM fullM ldP
  rw [List.zip_map', List.all_map, List.all_eq_true]
  intro i _
  simp
/-- (first, last, length) of each permutation. -/
def triP (n : Nat) : List (Msk × Msk × Nat) := (allP n).map fun a => (ldP n a, rdP n a, inv a)
def seqsP (n : Nat) : Nat → Nat → Msk → List (List (List Int))
  | 0, _, _ => [[]]
  | m + 1, L, K => (allP n).flatMap fun a => if subM (ldP n a) K = true ∧ inv a ≤ L then (seqsP n m (L - inv a) (rdP n a)).map (a :: ·) else []
/-- How many. -/
def cntP (tri : List (Msk × Msk × Nat)) : Nat → Nat → Msk → Nat
  | 0, _, _ => 1
  | m + 1, L, K => (tri.map fun t => if subM t.1 K = true ∧ t.2.2 ≤ L then cntP tri m (L - t.2.2) t.2.1 else 0).sum
theorem len_flatMapP {α β : Type} (l : List α) (f : α → List β) : (l.flatMap f).length = (l.map fun a => (f a).length).sum := by
  induction l with
  | nil => rfl
  | cons a l ih => rw [List.flatMap_cons, List.length_append, ih, List.map_cons, List.sum_cons]
theorem seqsP_len (n : Nat) : ∀ m L K, (seqsP n m L K).length = cntP (triP n) m L K := by
  intro m
  induction m with
  | zero => intro L K; rfl
  | succ m ih =>
    intro L K
    rw [seqsP, cntP, len_flatMapP]
    have e : ∀ f : Msk × Msk × Nat → Nat, (triP n).map f = (allP n).map fun a => f (ldP n a, rdP n a, inv a) := fun f => by rw [triP, List.map_map]; rfl
    rw [e]
    congr 1
    refine List.map_congr_left fun a _ => ?_
    show (if subM (ldP n a) K = true ∧ inv a ≤ L then _ else _ : List (List (List Int))).length = if subM (ldP n a) K = true ∧ inv a ≤ L then _ else 0
    split
    · rw [List.length_map, ih]
    · rfl
theorem mem_seqsP {n : Nat} : ∀ (T : List (List Int)) (m L : Nat) (K : Msk), T.length = m → Good n T → Tight n T → tot T ≤ L → (∀ a T', T = a :: T' → subM (ldP n a) K = true) → T ∈ seqsP n m L K := by
  intro T
  induction T with
  | nil => intro m L K hm _ _ _ _; subst hm; simp [seqsP]
  | cons a T ih =>
    intro m L K hm g t ht hK
    obtain ⟨m, rfl⟩ : ∃ k, m = k + 1 := ⟨T.length, by simpa using hm.symm⟩
    have ht' : inv a + tot T ≤ L := ht
    rw [seqsP]
    refine List.mem_flatMap.2 ⟨a, mem_allP g.hd, ?_⟩
    rw [if_pos ⟨hK a T rfl, by omega⟩]
    refine List.mem_map.2 ⟨T, ih m (L - inv a) (rdP n a) (by simpa using hm) g.tl t.tl (by omega) ?_, rfl⟩
    rintro b T' rfl
    refine ld_sub fun i hi hb => ?_
    have h1 := t.pair i hi hb
    exact (up_or g.hd hi).resolve_left h1

/-! ### The count by tables -/
end Go.Proofs.Ytnmklkjlcpgjmaa

namespace Go.Proofs.Ytnmklkjlcpgjmaa
open Go.RowKit Go.Sl

section
variable {n : Nat} {D : List Int}
theorem up_state (hn : n ≤ 1000) {w a : List Int} (h : IsUp n w a) : ∀ {s : St}, Good n s.2 → Eqv n (mulW n s w) (s.1, s.2 ++ [a]) := by
  induction h with
  | nil => exact fun {s} g => (Eqv.trail s.1 g).symm
  | @snoc w f j h hj hu ih =>
    intro s g
    have hF := h.pn hn
    rw [mulW_append]
    have h1 := eqv_mulW hn [ltr j] (fun x hx => by rw [List.mem_singleton.1 hx]; exact lt_ltr hj) (ih g)
    refine h1.trans ?_
    show Eqv n (mulS n (s.1, s.2 ++ [f]) (ltr j)) _
    unfold mulS
    rw [if_pos (pos_ltr (n := n) hj).1]
    have e : (ltr j).natAbs - 1 = j := by unfold ltr; omega
    rw [e]
    have r := (add_one hn hF hj hu).pre s.2
    have g2 : Good n (s.2 ++ [f, sgP n j]) := g.app (.cons hF (good_one hn (pn_sg hn hj)))
    have h3 := eqv_reach s.1 r g2
    have h4 := Eqv.trail (n := n) s.1 (F := s.2 ++ [swapV f j]) (g.app (good_one hn (hF.swapV hj)))
    simp only [List.append_assoc, List.cons_append, List.nil_append] at h3 h4 ⊢
    exact h3.trans h4
/-- A state without half twists and identities is its own normal form. -/
theorem cn_self {s : St} {j : Int} {G : List (List Int)} (hn : n ≤ 1000) (h2 : 2 ≤ n) (g : Good n G) (t : Tight n G) (h1 : hf n ∉ G) (h3 : iota n ∉ G) (h : Eqv n s (j, G)) : Cn n s (j, G) := by
  refine (eqv_cn hn h2 h _).2 ⟨g, G, .refl _, t, ?_⟩
  unfold strip
  rw [List.count_eq_zero.2 h1, List.filter_eq_self.2 fun x hx => by
    simp only [decide_eq_true_eq]
    exact ⟨fun e => h1 (e ▸ hx), fun e => h3 (e ▸ hx)⟩]
  simp
theorem cn_clean {s : St} {j : Int} {G : List (List Int)} (hn : n ≤ 1000) (h : Cn n s (j, G)) : Good n G ∧ Tight n G ∧ hf n ∉ G ∧ iota n ∉ G := by
  obtain ⟨g, T, r, t, e⟩ := h
  obtain ⟨_, e2⟩ := Prod.mk.inj e
  have gT := r.good g
  refine ⟨fun x hx => by rw [e2] at hx; exact gT x (List.mem_filter.1 hx).1, by rw [e2]; exact strip_is_tight hn T gT t, fun hm => ?_, fun hm => ?_⟩
  · rw [e2] at hm; have := (List.mem_filter.1 hm).2; simp at this
  · rw [e2] at hm; have := (List.mem_filter.1 hm).2; simp at this
theorem half_times (hn : n ≤ 1000) (hD : IsUp n D (hf n)) : ∀ (r : Nat) (j : Int) (G : List (List Int)), Good n G → Tight n G → hf n ∉ G → iota n ∉ G → ∃ G', G'.length = G.length ∧ Good n G' ∧ Tight n G' ∧ hf n ∉ G' ∧ iota n ∉ G' ∧ Eqv n (mulW n (j, G) (powB r D)) (j + r, G') := by
  intro r
  induction r with
  | zero => exact fun j G g t h1 h2 => ⟨G, rfl, g, t, h1, h2, by simpa [powB, mulW] using Eqv.refl _⟩
  | succ r ih =>
    intro j G g t h1 h2
    have e : powB ((r + 1 : Nat) : Int) D = D ++ powB (r : Int) D := by
      unfold powB
      rw [if_pos (by omega), if_pos (by omega), show ((r + 1 : Nat) : Int).natAbs = r + 1 by omega, show ((r : Nat) : Int).natAbs = r by omega, List.replicate_succ, List.flatten_cons]
    rw [e, mulW_append]
    have a1 := (up_state hn hD (s := (j, G)) g).trans (half_end hn g j)
    obtain ⟨G', l', g', t', n1, n2, e'⟩ := ih (j + 1) (G.map (turnP n)) (good_turn g) (tight_turn g t) (turn_mem g turn_hf h1) (turn_mem g turn_iota h2)
    refine ⟨G', by rw [l', List.length_map], g', t', n1, n2, ?_⟩
    have a2 := eqv_mulW hn (powB (r : Int) D) (powB_lt hD.lt _) a1
    rw [show j + ((r + 1 : Nat) : Int) = j + 1 + r by omega]
    exact a2.trans e'
/-- What divides a power of the half twist is a tight sequence of that many permutations. -/
theorem tight_of (hn : n ≤ 1000) (h2 : 2 ≤ n) (hD : IsUp n D (hf n)) {r : Nat} {t u : List Int} (ht : PosW n t) (hu : PosW n u) (h : BE n (t ++ u) (powB r D)) : ∃ T y, Good n T ∧ Tight n T ∧ T.length = r ∧ tot T = t.length ∧ WdF n T y ∧ BE n y t := by
  have gt := fwB_good hn ht
  have gu := fwB_good hn hu
  obtain ⟨⟨k, F⟩, hc⟩ := cn_exists (n := n) (s := stB n t) (stB_good hn ht.lt)
  obtain ⟨⟨k', F'⟩, hc'⟩ := cn_exists (n := n) (s := stB n u) (stB_good hn hu.lt)
  have hk' : 0 ≤ k' := by
    rw [stB_pos hu] at hc'
    obtain ⟨_, U, _, _, e⟩ := hc'
    have := (Prod.mk.inj e).1
    rw [this]
    show (0 : Int) ≤ 0 + (U.count (hf n) : Nat)
    omega
  have hk : 0 ≤ k := by
    have h5 := hc
    rw [stB_pos ht] at h5
    obtain ⟨_, U, _, _, e⟩ := h5
    have := (Prod.mk.inj e).1
    rw [this]
    show (0 : Int) ≤ 0 + (U.count (hf n) : Nat)
    omega
  -- the inverse
  obtain ⟨G, hGl, hG⟩ := inv_form hn h2 (w := t) ht.lt hc
  obtain ⟨gG, tG, n1, n2⟩ := cn_clean hn hG
  obtain ⟨G', hl', gG', tG', m1, m2, hE⟩ := half_times hn hD r (-k - F.length) G gG tG n1 n2
  have lit : LtW n (invB t) := invB_lt ht.lt
  have e1 : Eqv n (stB n (invB t ++ powB r D)) (-k - F.length + r, G') := by
    unfold stB
    rw [mulW_append]
    exact (eqv_mulW hn (powB (r : Int) D) (powB_lt hD.lt _) (cn_eqv hn h2 hG)).trans hE
  have hb : BE n u (invB t ++ powB r D) := by
    have h5 := h.pre (invB t)
    rw [← List.append_assoc] at h5
    exact ((BE.invMul ht.lt).post u).symm.trans h5
  have e2 := hb.eqv hn hu.lt (s := (0, [])) (good_nil n)
  have hc2 := cn_self hn h2 gG' tG' m1 m2 (e2.trans e1)
  have := cn_unique hc' hc2
  obtain ⟨e3, _⟩ := Prod.mk.inj this
  have hle : k + F.length ≤ r := by omega
  obtain ⟨gF, tF, f1, f2⟩ := cn_clean hn hc
  obtain ⟨K, rfl⟩ : ∃ K : Nat, k = (K : Int) := ⟨k.toNat, by omega⟩
  obtain ⟨T, hT⟩ : ∃ T, T = List.replicate K (hf n) ++ (F ++ List.replicate (r - K - F.length) (iota n)) := ⟨_, rfl⟩
  have gI : Good n (F ++ List.replicate (r - K - F.length) (iota n)) := gF.app fun x hx => by rw [List.eq_of_mem_replicate hx]; exact pn_iota hn
  have tI : ∀ m, Tight n (F ++ List.replicate m (iota n)) := by
    intro m
    induction m with
    | zero => simpa using tF
    | succ m ih => rw [List.replicate_succ', ← List.append_assoc]; exact tight_iota ih
  have lead : ∀ (K : Nat) (j : Int), Good n (List.replicate K (hf n) ++ (F ++ List.replicate (r - K - F.length) (iota n))) → True := fun _ _ _ => trivial
  have hall : ∀ (m : Nat) (S : List (List Int)), Good n S → Tight n S → Good n (List.replicate m (hf n) ++ S) ∧ Tight n (List.replicate m (hf n) ++ S) ∧ ∀ j : Int, Eqv n (j, List.replicate m (hf n) ++ S) (j + m, S) := by
    intro m
    induction m with
    | zero => exact fun S g t => ⟨by simpa using g, by simpa using t, fun j => by simpa using Eqv.refl _⟩
    | succ m ih =>
      intro S g t
      obtain ⟨a1, a2, a3⟩ := ih S g t
      rw [List.replicate_succ, List.cons_append]
      refine ⟨.cons (pn_hf hn) a1, tight_hf hn a2, fun j => ?_⟩
      have := (Eqv.half j a1).trans (a3 (j + 1))
      rw [show j + 1 + (m : Int) = j + ((m + 1 : Nat) : Int) by omega] at this
      exact this
  obtain ⟨gT, tT, eT⟩ := hall K _ gI (tI _)
  rw [← hT] at gT tT eT
  obtain ⟨y, hy⟩ := WdF.exists hn T gT
  have hE2 : Eqv n (0, T) (stB n t) := by
    have h5 := (eT 0).trans (eqv_iotas hn gF _ _)
    rw [Int.zero_add] at h5
    exact h5.trans (cn_eqv hn h2 hc).symm
  have hyt : BE n y t := by
    obtain ⟨d, hd⟩ := up_exists hn _ (pn_hf (n := n) hn)
    have w1 : Wd n (0, T) y := ⟨d, y, hd, hy, rfl⟩
    obtain ⟨b, hb⟩ := Wd.exists hn (stB_good hn ht.lt)
    exact (Wd.eqv hn hE2 gT w1 hb).trans (stB_wd hn ht.lt hb)
  refine ⟨T, y, gT, tT, ?_, ?_, hy, hyt⟩
  · rw [hT]; simp; omega
  · have h5 := hyt.ex
    rw [hy.posW.ex, ht.ex] at h5
    rw [← hy.len hn]
    omega
open Classical in
noncomputable def wdOf (n : Nat) (T : List (List Int)) : List Int := if h : ∃ w, WdF n T w then h.choose else []
theorem wdOf_spec {T : List (List Int)} {y : List Int} (h : WdF n T y) : WdF n T (wdOf n T) := by
  have hex : ∃ w, WdF n T w := ⟨y, h⟩
  unfold wdOf
  rw [dif_pos hex]
  exact hex.choose_spec
theorem wdOf_lt (T : List (List Int)) : LtW n (wdOf n T) := by
  by_cases h : ∃ w, WdF n T w
  · obtain ⟨y, hy⟩ := h
    exact (wdOf_spec hy).lt
  · unfold wdOf
    rw [dif_neg h]
    exact fun x hx => by simp at hx
/-- All vertices of the interval: from below and from above. -/
theorem cover_of (hn : n ≤ 1000) (h2 : 2 ≤ n) (hD : IsUp n D (hf n)) {A B : List Int} (lA : LtW n A) (lB : LtW n B) {r L : Nat} (hB : LeB n B (A ++ powB r D)) (hL : exB B - exB A ≤ 2 * L) : ∃ X, Cover n A B X ∧ X.length = 2 * cntP (triP n) r L (fullM n) := by
  obtain ⟨Sq, hSq⟩ : ∃ S, S = seqsP n r L (fullM n) := ⟨_, rfl⟩
  have inS : ∀ T : List (List Int), Good n T → Tight n T → T.length = r → tot T ≤ L → T ∈ Sq := fun T g t h1 h3 => by
    rw [hSq]
    exact mem_seqsP T r L _ h1 g t h3 fun a T' _ => sub_full n a
  refine ⟨(Sq.map fun T => A ++ wdOf n T) ++ (Sq.map fun T => B ++ invB (wdOf n T)), ⟨fun x hx => ?_, fun v lv hv => ?_⟩, ?_⟩
  · rcases List.mem_append.1 hx with h | h
    · obtain ⟨T, _, rfl⟩ := List.mem_map.1 h
      exact lA.app (wdOf_lt T)
    · obtain ⟨T, _, rfl⟩ := List.mem_map.1 h
      exact lB.app (invB_lt (wdOf_lt T))
  · obtain ⟨⟨t, ht, h3⟩, ⟨s, hs, h4⟩⟩ := hv
    obtain ⟨b, hb, h5⟩ := hB
    have h6 : BE n (A ++ (t ++ (s ++ b))) (A ++ powB r D) := by
      have a1 := (h3.post s).trans h4
      have a2 := (a1.post b).trans h5
      simpa using a2
    have h7 := h6.cancelL lA
    have hex : (t.length : Int) + s.length = exB B - exB A := by
      have e1 := h3.ex
      have e2 := h4.ex
      rw [exB_append, ht.ex] at e1
      rw [exB_append, hs.ex] at e2
      omega
    rcases Nat.le_total t.length L with hl | hl
    · obtain ⟨T, y, g, ti, hlen, htot, hy, hyt⟩ := tight_of hn h2 hD ht (hs.app hb) h7
      refine ⟨A ++ wdOf n T, List.mem_append_left _ (List.mem_map.2 ⟨T, inS T g ti hlen (by omega), rfl⟩), ?_⟩
      have h8 := ((wdOf_spec hy).uniq hn hy).trans hyt
      exact h3.symm.trans (h8.symm.pre A)
    · obtain ⟨t', ht', _, hp⟩ := passL hn hD (r : Int) ht
      have h8 : BE n (t ++ (s ++ (b ++ t'))) (t ++ powB r D) := by
        have a1 := (h7.post t').trans hp.symm
        simpa using a1
      have h9 := h8.cancelL ht.lt
      obtain ⟨T, y, g, ti, hlen, htot, hy, hyt⟩ := tight_of hn h2 hD hs (hb.app ht') h9
      refine ⟨B ++ invB (wdOf n T), List.mem_append_right _ (List.mem_map.2 ⟨T, inS T g ti hlen (by omega), rfl⟩), ?_⟩
      have h10 := ((wdOf_spec hy).uniq hn hy).trans hyt
      have h11 := (h10.inv (wdOf_lt T)).pre B
      have h12 := h4.post (invB s)
      have h13 := (BE.mulInv hs.lt).pre v
      rw [List.append_nil] at h13
      rw [List.append_assoc] at h12
      exact h13.symm.trans (h12.trans h11.symm)
  · rw [List.length_append, List.length_map, List.length_map, hSq, seqsP_len]; omega
end
end Go.Proofs.Ytnmklkjlcpgjmaa

namespace Go.Proofs.Ytnmklkjlcpgjmaa
open Go.RowKit Go.Sl

section
variable {n : Nat} {S : List Int → Prop}
def LoS (n : Nat) (S : List Int → Prop) (z : List Int) : Prop := LtW n z ∧ ∀ p, S p → LeB n z p
theorem LoS.down {z y : List Int} (h : LoS n S y) (hz : LtW n z) (k : LeB n z y) : LoS n S z := ⟨hz, fun p hp => k.trans (h.2 p hp)⟩
/-- Two lower bounds: the greater one, if nothing above it is one. -/
theorem lowS_join (hn : n ≤ 1000) (h2 : 2 ≤ n) {A : List Int} (hmax : ∀ i, i + 1 < n → ¬ LoS n S (A ++ [ltr i])) {x : List Int} (_hx : LoS n S x) :
    ∀ (k : Nat) (z a b x : List Int), a.length ≤ k → LtW n z → PosW n a → PosW n b → BE n (z ++ a) A → BE n (z ++ b) x → LtW n A → LoS n S A → LoS n S x → LeB n x A := by
  clear _hx x
  intro k
  induction k with
  | zero =>
    intro z a b x hk hz ha hb hA hX lA loA loX
    cases b with
    | nil =>
      rw [List.append_nil] at hX
      exact (LeB.add ha).congr hX hA
    | cons j b =>
      exfalso
      obtain rfl := List.eq_nil_of_length_eq_zero (show a.length = 0 by omega)
      rw [List.append_nil] at hA
      obtain ⟨i, hi, rfl⟩ := ltr_of hb.hd
      refine hmax i hi (loX.down (lA.app (PosW.one (pos_ltr hi)).lt) ⟨b, hb.tl, ?_⟩)
      have h1 := hA.symm.post ([ltr i] ++ b)
      rw [List.append_assoc]
      exact h1.trans (by simpa using hX)
  | succ k ih =>
    intro z a b x hk hz ha hb hA hX lA loA loX
    cases b with
    | nil =>
      rw [List.append_nil] at hX
      exact (LeB.add ha).congr hX hA
    | cons j b =>
      cases a with
      | nil =>
        exfalso
        rw [List.append_nil] at hA
        obtain ⟨i, hi, rfl⟩ := ltr_of hb.hd
        refine hmax i hi (loX.down (lA.app (PosW.one (pos_ltr hi)).lt) ⟨b, hb.tl, ?_⟩)
        have h1 := hA.symm.post ([ltr i] ++ b)
        rw [List.append_assoc]
        exact h1.trans (by simpa using hX)
      | cons i a =>
        obtain ⟨j, hj, rfl⟩ := ltr_of hb.hd
        obtain ⟨i, hi, rfl⟩ := ltr_of ha.hd
        have hzi : LtW n (z ++ [ltr i]) := hz.app (PosW.one (pos_ltr hi)).lt
        have hzj : LtW n (z ++ [ltr j]) := hz.app (PosW.one (pos_ltr hj)).lt
        have hA' : BE n ((z ++ [ltr i]) ++ a) A := by simpa using hA
        have hX' : BE n ((z ++ [ltr j]) ++ b) x := by simpa using hX
        have hk' : a.length ≤ k := by simpa using hk
        have liA : LeB n (z ++ [ltr i]) A := ⟨a, ha.tl, hA'⟩
        have ljX : LeB n (z ++ [ltr j]) x := ⟨b, hb.tl, hX'⟩
        have hLtm : LtW n (z ++ lcmB i j) := hz.app (lcmB_pos hi hj).lt
        have loM : LoS n S (z ++ lcmB i j) := ⟨hLtm, fun p hp => LeB.lcm hn h2 hi hj hz (liA.trans (loA.2 p hp)) (ljX.trans (loX.2 p hp))⟩
        obtain ⟨r, hr⟩ := lcmB_head i j
        obtain ⟨r', hr'⟩ := lcmB_head j i
        have pr : PosW n r := by have := lcmB_pos hi hj; rw [hr] at this; exact this.tl
        have pr' : PosW n r' := by have := lcmB_pos hj hi; rw [hr'] at this; exact this.tl
        have m1 : LeB n (z ++ lcmB i j) A := ih (z ++ [ltr i]) a r _ hk' hzi ha.tl pr hA' (by rw [hr]; simp; exact .refl _) lA loA loM
        have jm : LeB n (z ++ [ltr j]) (z ++ lcmB i j) := ⟨r', pr', by
          have h3 := (ltr_swap hj hi).pre z
          rw [hr'] at h3
          rw [List.append_assoc]
          exact h3⟩
        obtain ⟨a2, ha2, hA2⟩ := jm.trans m1
        have hlen : a2.length = a.length := by
          have e1 := hA2.ex
          have e2 := hA'.ex
          rw [exB_append, exB_append, ha2.ex] at e1
          rw [exB_append, exB_append, ha.tl.ex] at e2
          have e3 := (PosW.one (pos_ltr hi)).ex
          have e4 := (PosW.one (pos_ltr hj)).ex
          simp only [List.length_cons, List.length_nil] at e3 e4
          omega
        exact ih (z ++ [ltr j]) a2 b x (by omega) hzj ha2 hb.tl hA2 hX' lA loA loX

variable {r : Nat} {D A B : List Int}
/-- The greatest lower bound of two. -/
theorem gcd_exists (hn : n ≤ 1000) (h2 : 2 ≤ n) (hD : IsUp n D (hf n)) {Q z : List Int} (hA : LtW n A) (hQ : LeB n A Q) (hz : LeB n A z) : ∃ G, LtW n G ∧ LeB n A G ∧ LeB n G Q ∧ LeB n G z ∧ ∀ Y, LtW n Y → LeB n Y Q → LeB n Y z → LeB n Y G := by
  obtain ⟨S, hS⟩ : ∃ S : List Int → Prop, S = fun p => p = Q ∨ p = z := ⟨_, rfl⟩
  have lo : ∀ {y : List Int}, LtW n y → LeB n y Q → LeB n y z → LoS n S y := fun {y} l a b => ⟨l, fun p hp => by
    rw [hS] at hp
    rcases hp with rfl | rfl
    · exact a
    · exact b⟩
  have loQ : ∀ {y : List Int}, LoS n S y → LeB n y Q ∧ LeB n y z := fun {y} h => ⟨h.2 Q (by rw [hS]; exact .inl rfl), h.2 z (by rw [hS]; exact .inr rfl)⟩
  have hmaxE : ∀ (k : Nat) (y : List Int), LoS n S y → exB y + k = exB Q → ∃ G, LoS n S G ∧ ∀ i, i + 1 < n → ¬ LoS n S (G ++ [ltr i]) := by
    intro k
    induction k with
    | zero =>
      intro y hy e
      refine ⟨y, hy, fun i hi h => ?_⟩
      have h3 := (loQ h).1.exLe
      rw [exB_append, (PosW.one (pos_ltr hi)).ex] at h3
      simp at h3 e; omega
    | succ k ih =>
      intro y hy e
      by_cases h : ∃ i, i + 1 < n ∧ LoS n S (y ++ [ltr i])
      · obtain ⟨i, hi, h⟩ := h
        refine ih _ h ?_
        rw [exB_append, (PosW.one (pos_ltr hi)).ex]
        simp; omega
      · exact ⟨y, hy, fun i hi h3 => h ⟨i, hi, h3⟩⟩
  have h0 := lo hA hQ hz
  have hle := hQ.exLe
  obtain ⟨G, hG, hmax⟩ := hmaxE (exB Q - exB A).toNat A h0 (by omega)
  have great : ∀ x, LoS n S x → LeB n x G := fun x hx => by
    obtain ⟨M, hM⟩ : ∃ M : Nat, M = max (negN G) (negN x) := ⟨_, rfl⟩
    obtain ⟨a, ha, hae⟩ := word_above hn hD hG.1 (m := (M : Int)) (by omega)
    obtain ⟨b, hb, hbe⟩ := word_above hn hD hx.1 (m := (M : Int)) (by omega)
    exact lowS_join hn h2 hmax hx a.length _ a b x (Nat.le_refl _) (powB_lt hD.lt _) ha hb hae hbe hG.1 hG hx
  exact ⟨G, hG.1, great _ h0, (loQ hG).1, (loQ hG).2, fun Y lY a b => great _ (lo lY a b)⟩
theorem le_eq {x y : List Int} (h : LeB n x y) (e : exB x = exB y) : BE n x y := by
  obtain ⟨t, ht, h⟩ := h
  have h1 := h.ex
  rw [exB_append, ht.ex] at h1
  obtain rfl : t = [] := List.eq_nil_of_length_eq_zero (by omega)
  rwa [List.append_nil] at h
theorem first_not {α : Type} (p : α → Prop) : ∀ (Z : List α), (∀ z ∈ Z, p z) ∨ ∃ Z1 z Z2, Z = Z1 ++ z :: Z2 ∧ (∀ a ∈ Z1, p a) ∧ ¬ p z := by
  intro Z
  induction Z with
  | nil => exact .inl fun z hz => by simp at hz
  | cons a Z ih =>
    by_cases h : p a
    · rcases ih with ih | ⟨Z1, z, Z2, rfl, h1, h3⟩
      · exact .inl fun z hz => by
          rcases List.mem_cons.1 hz with rfl | hz
          · exact h
          · exact ih z hz
      · exact .inr ⟨a :: Z1, z, Z2, rfl, fun y hy => by
          rcases List.mem_cons.1 hy with rfl | hy
          · exact h
          · exact h1 y hy, h3⟩
    · exact .inr ⟨[], a, Z, rfl, fun y hy => by simp at hy, h⟩
/-- At most f vertices between Q and Q shifted. -/
def Span (n r : Nat) (D : List Int) (f : Nat) : Prop := ∀ Q, LtW n Q → ∀ Z : List (List Int), (∀ z ∈ Z, LtW n z ∧ LeB n Q z ∧ LeB n z (Q ++ powB (r : Int) D)) → Z.Pairwise (fun a b => ¬ BE n a b) → Z.length ≤ f
theorem few_chain (hn : n ≤ 1000) (h2 : 2 ≤ n) (hD : IsUp n D (hf n)) (hA : LtW n A) {f : Nat} (hf : Span n r D f) : ∀ (m : Nat) (Q : List Int) (Z : List (List Int)), LtW n Q → LeB n A Q → exB Q - exB A ≤ m → (∀ z ∈ Z, LtW n z ∧ LeB n A z ∧ LeB n z (Q ++ powB (r : Int) D)) → Z.Pairwise (fun a b => ¬ BE n a b) → Z.Pairwise (fun a b => LeB n b (a ++ powB (r : Int) D)) → Z.length ≤ (m + 1) * (f + 1) := by
  intro m
  induction m with
  | zero =>
    intro Q Z lQ hQ he hZ hd _
    have h1 := hf Q lQ Z (fun z hz => ⟨(hZ z hz).1, ?_, (hZ z hz).2.2⟩) hd
    · omega
    · have h3 := hQ.exLe
      exact (hZ z hz).2.1.congr (le_eq hQ (by omega)) (.refl _)
  | succ m ih =>
    intro Q Z lQ hQ he hZ hd hp
    rcases first_not (fun z => LeB n Q z) Z with h | ⟨Z1, z, Z2, rfl, h1, h3⟩
    · have h4 := hf Q lQ Z (fun z hz => ⟨(hZ z hz).1, h z hz, (hZ z hz).2.2⟩) hd
      have : (m + 1 + 1) * (f + 1) = (m + 1) * (f + 1) + (f + 1) := Nat.succ_mul _ _
      omega
    · have hz := hZ z (by simp)
      obtain ⟨G, lG, gA, gQ, gz, gr⟩ := gcd_exists hn h2 hD hA hQ hz.2.1
      have hlt : exB G < exB Q := by
        have h4 := gQ.exLe
        rcases Int.lt_or_eq_of_le h4 with h5 | h5
        · exact h5
        · exact absurd (gz.congr (le_eq gQ h5) (.refl _)) h3
      have d1 := List.pairwise_append.1 hd
      have p1 := List.pairwise_append.1 hp
      have h4 := hf Q lQ Z1 (fun y hy => ⟨(hZ y (by simp [hy])).1, h1 y hy, (hZ y (by simp [hy])).2.2⟩) d1.1
      have h5 := ih G Z2 lG gA (by omega) (fun b hb => by
        have hb3 := hZ b (by simp [hb])
        refine ⟨hb3.1, hb3.2.1, ?_⟩
        have k1 := (List.pairwise_cons.1 p1.2.1).1 b hb
        exact le_unshift hn hD (gr _ (hb3.1.app (powB_lt hD.lt _)) (le_shift hn hD hb3.2.2) (le_shift hn hD k1))) (List.pairwise_cons.1 d1.2.1).2 (List.pairwise_cons.1 p1.2.1).2
      have : (m + 1 + 1) * (f + 1) = (m + 1) * (f + 1) + (f + 1) := Nat.succ_mul _ _
      rw [List.length_append, List.length_cons]
      omega
theorem dist_len {Z X : List (List Int)} (h : ∀ z ∈ Z, ∃ x ∈ X, BE n z x) (hd : Z.Pairwise fun a b => ¬ BE n a b) : Z.length ≤ X.length := by
  have spec : ∀ z ∈ Z, repX n X z ∈ X ∧ BE n z (repX n X z) := fun z hz => by
    have hex := h z hz
    unfold repX
    rw [dif_pos hex]
    exact hex.choose_spec
  have := nodup_lenW (Z.map (repX n X)) X ?_ ?_
  · simpa using this
  · refine List.pairwise_map.2 (List.Pairwise.imp_of_mem (fun {a b} ha hb hab e => hab ?_) hd)
    have h1 := (spec a ha).2
    rw [e] at h1
    exact h1.trans (spec b hb).2.symm
  · intro x hx
    obtain ⟨z, hz, rfl⟩ := List.mem_map.1 hx
    exact (spec z hz).1
/-- The divisors of a power of the half twist. -/
theorem span_cnt (hn : n ≤ 1000) (h2 : 2 ≤ n) (hD : IsUp n D (hf n)) : Span n r D (cntP (triP n) r (r * D.length) (fullM n)) := by
  intro Q lQ Z hZ hd
  rw [← seqsP_len]
  have := dist_len (X := (seqsP n r (r * D.length) (fullM n)).map fun T => Q ++ wdOf n T) (fun z hz => ?_) hd
  · simpa using this
  · obtain ⟨lz, ⟨t, ht, h3⟩, ⟨u, hu, h4⟩⟩ := hZ z hz
    have h6 : BE n (Q ++ (t ++ u)) (Q ++ powB r D) := by
      have a1 := (h3.post u).trans h4
      simpa using a1
    have h7 := h6.cancelL lQ
    obtain ⟨T, y, g, ti, hlen, htot, hy, hyt⟩ := tight_of hn h2 hD ht hu h7
    have e1 := h7.ex
    rw [exB_append, ht.ex, hu.ex, powB_ex hD.posW] at e1
    refine ⟨Q ++ wdOf n T, List.mem_map.2 ⟨T, mem_seqsP T r _ _ hlen g ti ?_ fun a T' _ => sub_full n a, rfl⟩, ?_⟩
    · rw [htot]
      have : (r : Int) * (D.length : Int) = ((r * D.length : Nat) : Int) := by rw [Int.natCast_mul]
      omega
    · have h8 := ((wdOf_spec hy).uniq hn hy).trans hyt
      exact h3.symm.trans (h8.symm.pre Q)
/-- A path of at most r positive letters. -/
theorem few_low (hn : n ≤ 1000) (h2 : 2 ≤ n) (hD : IsUp n D (hf n)) (hA : LtW n A) (hA0 : LeB n A []) {f m : Nat} (hf : Span n r D f) (hm : - exB A ≤ m) : Few n r D A B ((m + 1) * (f + 1)) := fun Z hZ hd hp => by
  have e0 : exB ([] : List Int) = 0 := rfl
  exact few_chain hn h2 hD hA hf m [] Z (fun x hx => by simp at hx) hA0 (by omega) (fun z hz => ⟨(hZ z hz).1, (hZ z hz).2.1.1, by simpa using (hZ z hz).2.2⟩) hd hp
/-- All vertices of the interval. -/
theorem few_all {s f : Nat} (hA : LtW n A) (hf : Span n s D f) (hB : LeB n B (A ++ powB (s : Int) D)) : Few n r D A B f := fun Z hZ hd _ => hf A hA Z (fun z hz => ⟨(hZ z hz).1, (hZ z hz).2.1.1, (hZ z hz).2.1.2.trans hB⟩) hd
theorem Few.mono {M M' : Nat} (h : Few n r D A B M) (hm : M ≤ M') : Few n r D A B M' := fun Z a b c => Nat.le_trans (h Z a b c) hm
/-- The relation at the start. -/
theorem rho_start (hn : n ≤ 1000) (hD : IsUp n D (hf n)) {w : List Int} (hw : LtW n w) (h : posN w ≤ r) : Rho n r D w := by
  rintro q s rfl p t rfl
  have ht : LtW n t := hw.left.right
  have : posN t ≤ r := by rw [posN_append, posN_append] at h; omega
  exact (word_below hn hD ht (m := (r : Int)) (by omega)).pre p
/-- The interval of a word, with the exponent of its bottom. -/
theorem box_low (hn : n ≤ 1000) (h2 : 2 ≤ n) (hD : IsUp n D (hf n)) {w : List Int} (hw : LtW n w) {s : Nat} (hP : posN w ≤ s) (hN : negN w ≤ s) :
    ∃ A B, LoB n w A ∧ HiB n w B ∧ LeB n B (A ++ powB (s : Int) D) ∧ - exB A ≤ posN w * D.length + negN w - posN w := by
  obtain ⟨A, hA, hAm⟩ := low_exists hn h2 hD hw
  obtain ⟨B, hB, hBm⟩ := high_exists hn h2 hD hw
  have eW := (ex_count hw).1
  have upA : HiB n w (A ++ powB s D) := ⟨hA.1.app (powB_lt hD.lt _), fun p t e => by
    have hlo : LoB n w (p ++ powB (-(s : Int)) D) := ⟨by rw [e] at hw; exact hw.left.app (powB_lt hD.lt _), fun q t eq => le_shift hn hD (between hn hD hw eq e (by omega) (by omega))⟩
    exact le_unshift hn hD (hAm _ hlo)⟩
  refine ⟨A, B, hA, hB, hBm _ upA, ?_⟩
  have h3 : LoB n w (w ++ powB (-(posN w : Int)) D) := ⟨hw.app (powB_lt hD.lt _), fun q t e => le_shift hn hD (by
    have ht : LtW n t := by rw [e] at hw; exact hw.right
    have := (word_below hn hD ht (m := (posN w : Int)) (by rw [e, posN_append]; omega)).pre q
    rwa [← e] at this)⟩
  have e2 := (hAm _ h3).exLe
  rw [exB_append, powB_ex hD.posW, Int.neg_mul] at e2
  omega
end
end Go.Proofs.Ytnmklkjlcpgjmaa

namespace Go.Proofs.Ytnmklkjlcpgjmaa
open Go.RowKit Go.Sl

def cntQ (tri : List (Msk × Msk × Nat)) : Nat → Msk → Nat
  | 0, _ => 1
  | m + 1, K => (tri.map fun t => if subM t.1 K = true then cntQ tri m t.2.1 else 0).sum
theorem sum_map_le {α : Type} (f g : α → Nat) (h : ∀ a, f a ≤ g a) (l : List α) : (l.map f).sum ≤ (l.map g).sum := by
  induction l with
  | nil => simp
  | cons a l ih => have := h a; simp only [List.map_cons, List.sum_cons]; omega
theorem cntP_le (tri : List (Msk × Msk × Nat)) : ∀ m L K, cntP tri m L K ≤ cntQ tri m K := by
  intro m
  induction m with
  | zero => intro L K; exact Nat.le_refl _
  | succ m ih =>
    intro L K
    rw [cntP, cntQ]
    refine sum_map_le _ _ (fun t => ?_) tri
    by_cases h1 : subM t.1 K = true
    · by_cases h2 : t.2.2 ≤ L
      · rw [if_pos ⟨h1, h2⟩, if_pos h1]; exact ih _ _
      · rw [if_neg fun h => h2 h.2]; exact Nat.zero_le _
    · rw [if_neg fun h => h1 h.1]; exact Nat.zero_le _
def lookQ (T : List (Msk × Nat)) (K : Msk) : Nat := match T with
  | [] => 0
  | p :: T => if p.1 = K then p.2 else lookQ T K
def stepQ (tri : List (Msk × Msk × Nat)) (keys : List Msk) (T : List (Msk × Nat)) : List (Msk × Nat) :=
  keys.map fun K => (K, tri.foldl (fun acc t => if subM t.1 K = true then acc + lookQ T t.2.1 else acc) 0)
def tabQ (tri : List (Msk × Msk × Nat)) (keys : List Msk) : Nat → List (Msk × Nat)
  | 0 => keys.map fun K => (K, 1)
  | m + 1 => stepQ tri keys (tabQ tri keys m)
theorem lookQ_map {keys : List Msk} {f : Msk → Nat} {K : Msk} (h : K ∈ keys) : lookQ (keys.map fun K => (K, f K)) K = f K := by
  induction keys with
  | nil => simp at h
  | cons k keys ih =>
    rw [List.map_cons, lookQ]
    by_cases e : k = K
    · subst e; simp
    · rw [if_neg e]
      exact ih ((List.mem_cons.1 h).resolve_left fun h => e h.symm)
theorem foldQ (K : Msk) (f : Msk → Nat) (T : List (Msk × Nat)) : ∀ (tri : List (Msk × Msk × Nat)) (g : Nat), (∀ t ∈ tri, lookQ T t.2.1 = f t.2.1) → tri.foldl (fun acc t => if subM t.1 K = true then acc + lookQ T t.2.1 else acc) g = g + (tri.map fun t => if subM t.1 K = true then f t.2.1 else 0).sum := by
  intro tri
  induction tri with
  | nil => intro g _; simp
  | cons t tri ih =>
    intro g h
    rw [List.foldl_cons, List.map_cons, List.sum_cons]
    have h2 := fun s hs => h s (List.mem_cons_of_mem t hs)
    by_cases hs : subM t.1 K = true
    · rw [if_pos hs, if_pos hs, h t (by simp), ih _ h2]; omega
    · rw [if_neg hs, if_neg hs, ih _ h2]; omega
theorem tabQ_eq (tri : List (Msk × Msk × Nat)) (keys : List Msk) (hk : ∀ t ∈ tri, t.2.1 ∈ keys) : ∀ (m : Nat) (K : Msk), K ∈ keys → lookQ (tabQ tri keys m) K = cntQ tri m K := by
  intro m
  induction m with
  | zero =>
    intro K hK
    rw [tabQ, lookQ_map (f := fun _ => 1) hK]
    rfl
  | succ m ih =>
    intro K hK
    rw [tabQ, stepQ, lookQ_map (f := fun K => tri.foldl (fun acc t => if subM t.1 K = true then acc + lookQ (tabQ tri keys m) t.2.1 else acc) 0) hK, foldQ K (fun K => cntQ tri m K) _ tri 0 fun t ht => ih _ (hk t ht), Nat.zero_add, cntQ]
end Go.Proofs.Ytnmklkjlcpgjmaa

namespace Go.Proofs.Ytnmklkjlcpgjmaa
open Go.RowKit Go.Sl

/-- Words on the way, with a measure: none is longer than Lm. -/
structure Way (n Lm : Nat) (W : List Int → Nat → Prop) : Prop where
  len : ∀ {w m}, W w m → w.length ≤ Lm
  red : ∀ {w m}, W w m → W (redL w) m
  handle : ∀ {P M s : List Int} {x : Int} {m : Nat}, W (P ++ x :: M ++ (-x) :: s) m → Clean (P ++ x :: M) → (∀ y ∈ M, x.natAbs < y.natAbs) → 0 < m ∧ W (P ++ (midW x M ++ s)) (m - 1)
theorem way_of {n l r : Nat} {D A B : List Int} {X : List (List Int)} (hn : n ≤ 1000) (h2 : 2 ≤ n) (hD : IsUp n D (hf n)) (hA : LtW n A) (hX : Cover n A B X) {M : Nat} (hF : Few n r D A B M) : Way n (M + (l + (n - 2) * 2 * (3 * M))) (fun w m => OnWayR n l r D A B X w m) :=
  ⟨fun h => h.len hX hF, fun h => h.redL hn h2 hD hA hX, fun h hc hM => h.handle hn h2 hD hA hX hc hM⟩

def negL (w : List Int) : List Int := w.map fun z => -z
theorem negL_append (a b : List Int) : negL (a ++ b) = negL a ++ negL b := by simp [negL]
theorem negL_cons (x : Int) (a : List Int) : negL (x :: a) = (-x) :: negL a := rfl
theorem negL_negL (a : List Int) : negL (negL a) = a := by simp [negL, Function.comp_def]
theorem negL_len (a : List Int) : (negL a).length = a.length := by simp [negL]
theorem negL_mem {a : List Int} {z : Int} (h : z ∈ negL a) : -z ∈ a := by
  obtain ⟨y, hy, rfl⟩ := List.mem_map.1 h
  rwa [Int.neg_neg]
theorem negL_lt {n : Nat} {a : List Int} (h : LtW n a) : LtW n (negL a) := fun z hz => by
  have := lt_neg (h _ (negL_mem hz))
  rwa [Int.neg_neg] at this
theorem negL_psh (s : List Int) (x : Int) : psh (negL s) (-x) = negL (psh s x) := by
  cases s with
  | nil => simp [psh, negL]
  | cons y t =>
    have e1 : psh (y :: t) x = if y = -x then t else x :: y :: t := rfl
    have e2 : psh (negL (y :: t)) (-x) = if -y = - -x then negL t else (-x) :: (-y) :: negL t := rfl
    rw [e1, e2]
    by_cases h : y = -x
    · rw [if_pos h, if_pos (by omega)]
    · rw [if_neg h, if_neg (by omega)]
      rfl
theorem negL_act (b : List Int) : ∀ s, act (negL s) (negL b) = negL (act s b) := by
  induction b with
  | nil => exact fun _ => rfl
  | cons x b ih =>
    intro s
    show act (psh (negL s) (-x)) (negL b) = negL (act (psh s x) b)
    rw [negL_psh, ih]
theorem negL_redL (w : List Int) : redL (negL w) = negL (redL w) := by
  have := negL_act w []
  unfold redL
  have e : negL [] = [] := rfl
  rw [e] at this
  rw [this]
  simp [negL]
theorem negL_clean {w : List Int} (h : Clean w) : Clean (negL w) := fun p z s e hc => by
  obtain ⟨P, M, e2, hM⟩ := hc
  refine h (negL p) (-z) (negL s) ?_ ⟨negL P, negL M, ?_, fun y hy => ?_⟩
  · have := congrArg negL e
    rw [negL_negL, negL_append, negL_cons] at this
    exact this
  · rw [e2, negL_append, negL_cons]
  · have := hM _ (negL_mem hy)
    rw [Int.natAbs_neg] at this ⊢
    exact this
theorem negL_midB (x y : Int) : midB (-x) (-y) = negL (midB x y) := by
  unfold midB
  rw [Int.natAbs_neg, Int.natAbs_neg]
  by_cases h : y.natAbs = x.natAbs + 1
  · rw [if_pos h, if_pos h]
    simp only [negL, List.map_cons, List.map_nil, Int.sign_neg, Int.neg_mul, Int.neg_neg]
  · rw [if_neg h, if_neg h]
    rfl
theorem negL_midW (x : Int) (M : List Int) : midW (-x) (negL M) = negL (midW x M) := by
  induction M with
  | nil => rfl
  | cons y M ih => rw [negL_cons, midW_cons, midW_cons, negL_append, negL_midB, ih]
theorem way_neg {n Lm : Nat} {W : List Int → Nat → Prop} (h : Way n Lm W) : Way n Lm (fun w m => W (negL w) m) :=
  ⟨fun {w m} hw => by have := h.len hw; rwa [negL_len] at this, fun {w m} hw => by
    have := h.red hw
    rwa [negL_redL] at this, fun {P M s x m} hw hc hM => by
    have e : negL (P ++ x :: M ++ (-x) :: s) = negL P ++ (-x) :: negL M ++ (- -x) :: negL s := by simp [negL]
    rw [e] at hw
    have hc2 := negL_clean hc
    rw [negL_append, negL_cons] at hc2
    have := h.handle hw hc2 fun y hy => by
      have h2 := hM _ (negL_mem hy)
      rw [Int.natAbs_neg] at h2 ⊢
      exact h2
    refine ⟨this.1, ?_⟩
    have h3 := this.2
    rw [negL_midW] at h3
    have e2 : negL (P ++ (midW x M ++ s)) = negL P ++ (negL (midW x M) ++ negL s) := by simp [negL]
    rw [e2]
    exact h3⟩
theorem posN_neg (w : List Int) : posN (negL w) = negN w := by
  unfold posN negN negL
  rw [List.countP_map]
  refine List.countP_congr fun x _ => ?_
  simp
theorem negN_neg (w : List Int) : negN (negL w) = posN w := by
  have := posN_neg (negL w)
  rw [negL_negL] at this
  exact this.symm
/-- Handle reduction of this word is walked. -/
def RedOK (xs : List Int) : Prop := ∃ N Lm W, Way N Lm W ∧ Lm ≤ 16000000000000 ∧ ∃ m, W (redL xs) m
end Go.Proofs.Ytnmklkjlcpgjmaa

namespace Go.Proofs.Ytnmklkjlcpgjmaa
open Go.RowKit Go.Sl

/-- The slice is the call's own: its cells lie somewhere in a block from B on that is not frozen. -/
def OwnG (w : World) (B : Nat) (e : TypeId) (v : Value) (cs : List Value) : Prop :=
  IsSl v ∧ cs.length = vlen v ∧ (0 < vcap v → B ≤ vblk v ∧ ∃ cur, w.heap[vblk v]? = some (.cells cur e (0, 0)) ∧ voff v + vcap v ≤ cur.size ∧ ∀ j, j < cs.length → cur[voff v + j]? = cs[j]?)
section
variable {w w' : World} {B : Nat} {e : TypeId} {v : Value} {cs : List Value}
theorem OwnG.isSl (h : OwnG w B e v cs) : IsSl v := h.1
theorem OwnG.len (h : OwnG w B e v cs) : vlen v = cs.length := h.2.1.symm
theorem OwnG.cap_of (h : OwnG w B e v cs) {j : Nat} (hj : j < cs.length) : 0 < vcap v := by have := h.1.le; have := h.2.1; omega
theorem ownG_nil (w : World) (B : Nat) (e : TypeId) : OwnG w B e (.slice none 0 0) [] := ⟨isSl_nil, by simp, by simp⟩
theorem own_G (h : Own w B e 1 v cs) : OwnG w B e v cs := by
  refine ⟨h.1, by have := h.2.1; omega, fun h0 => ?_⟩
  obtain ⟨a, b, cur, c, d, f⟩ := h.2.2 h0
  refine ⟨a, cur, c, by omega, fun j hj => ?_⟩
  have h1 : (cur.toList.take cs.length)[j]? = cs[j]? := by rw [f]
  rw [List.getElem?_take, if_pos hj] at h1
  rw [b, Nat.zero_add]
  simpa using h1
theorem OwnG.cell (h : OwnG w B e v cs) {j : Nat} (hj : j < cs.length) : w.cell? (vat v j) = some cs[j] := by
  obtain ⟨_, cur, hh, _, hc⟩ := h.2.2 (h.cap_of hj)
  have := hc j hj
  rw [List.getElem?_eq_getElem hj] at this
  simp [World.cell?, vat, hh, this]
theorem OwnG.sl (h : OwnG w B e v cs) : Sl w v 1 cs := by
  refine ⟨h.1, by have := h.2.1; omega, fun j u hu => ?_⟩
  have hj := (List.getElem?_eq_some_iff.1 hu).1
  rw [h.cell hj]
  rw [List.getElem?_eq_getElem hj] at hu
  exact hu
theorem OwnG.frozen (h : OwnG w B e v cs) {j : Nat} (hj : j < vcap v) : w.frozen? (vat v j) = false := by
  obtain ⟨_, cur, hh, _⟩ := h.2.2 (by omega)
  simp [World.frozen?, vat, hh]
theorem OwnG.there (h : OwnG w B e v cs) {j : Nat} (hj : j < vcap v) : (w.cell? (vat v j)).isSome = true := by
  obtain ⟨_, cur, hh, hs, _⟩ := h.2.2 (by omega)
  simp [World.cell?, vat, hh]
  omega
theorem OwnG.ge (h : OwnG w B e v cs) (h0 : 0 < vcap v) (j : Nat) : B ≤ (vat v j).block := (h.2.2 h0).1
theorem OwnG.lt (h : OwnG w B e v cs) : ∀ k, row v = some k → B ≤ k ∧ k < w.heap.size := by
  intro k hk
  obtain ⟨h0, rfl⟩ := row_eq hk
  obtain ⟨hB, cur, hh, _⟩ := h.2.2 h0
  exact ⟨hB, (Array.getElem?_eq_some_iff.1 hh).1⟩
theorem OwnG.low (h : OwnG w B e v cs) {B' : Nat} (hB : B' ≤ B) : OwnG w B' e v cs := ⟨h.1, h.2.1, fun h0 => let ⟨a, b⟩ := h.2.2 h0; ⟨Nat.le_trans hB a, b⟩⟩
theorem OwnG.of_block (h : OwnG w B e v cs) (hb : ∀ k, row v = some k → w'.heap[k]? = w.heap[k]?) : OwnG w' B e v cs :=
  ⟨h.1, h.2.1, fun h0 => by
    obtain ⟨a, cur, c, d⟩ := h.2.2 h0
    exact ⟨a, cur, by rw [hb _ (row_some h0)]; exact c, d⟩⟩
theorem OwnG.below (h : OwnG w B e v cs) (hb : Below w.heap.size w w') : OwnG w' B e v cs := h.of_block fun k hk => hb.block _ (h.lt k hk).2
theorem OwnG.alloc (h : OwnG w B e v cs) (o : Obj) : OwnG (w.alloc o) B e v cs := h.of_block fun k hk => Below.heap_alloc w o _ (h.lt k hk).2
theorem OwnG.setOther (h : OwnG w B e v cs) {p : Addr} (hp : ∀ k, row v = some k → p.block ≠ k) (u : Value) : OwnG (w.setCell p u) B e v cs :=
  h.of_block fun k hk => Below.heap_setCell w p u k (fun e => hp k hk e.symm)
theorem OwnG.grown (h : OwnG w B e v cs) {r : Option Nat} (hg : w.grownBy w' r) (hr : ∀ k, row v = some k → r ≠ some k) : OwnG w' B e v cs :=
  h.of_block fun k hk => hg.block _ (h.lt k hk).2 (fun e => hr k hk e.symm)
theorem OwnG.set (h : OwnG w B e v cs) {j : Nat} (hj : j < cs.length) (u : Value) : OwnG (w.setCell (vat v j) u) B e v (cs.set j u) := by
  refine ⟨h.1, by rw [List.length_set]; exact h.2.1, fun h0 => ?_⟩
  obtain ⟨hB, cur, hh, hs, hc⟩ := h.2.2 h0
  have hle := h.1.le
  have hl := h.2.1
  refine ⟨hB, cur.setIfInBounds (voff v + j) u, ?_, by simpa using hs, fun i hi => ?_⟩
  · simp [World.setCell, vat, Array.getElem?_modify, hh]
  · rw [List.length_set] at hi
    by_cases e1 : i = j
    · subst e1
      rw [Array.getElem?_setIfInBounds_self_of_lt (by omega), List.getElem?_set_self hj]
    · rw [Array.getElem?_setIfInBounds_ne (by omega), List.getElem?_set_ne (fun e => e1 e.symm)]
      exact hc i hi
/-- The slice without its first element. -/
theorem OwnG.tail {c : Value} (h : OwnG w B e v (c :: cs)) : OwnG w B e (vcut v 1 (vlen v) (vcap v) 1) cs := by
  have hl := h.2.1
  have hle := h.1.le
  rw [List.length_cons] at hl
  refine ⟨isSl_cut h.1 (by omega) hle (Nat.le_refl _), by rw [vlen_cut]; omega, fun h0 => ?_⟩
  rw [vcap_cut] at h0
  obtain ⟨hB, cur, hh, hs, hc⟩ := h.2.2 (by omega)
  have h1 := vat_cut h.1 (l := 1) (h := vlen v) (m := vcap v) (s := 1) 0 (by omega) (Nat.le_refl _)
  have eb : vblk (vcut v 1 (vlen v) (vcap v) 1) = vblk v := by have := congrArg Addr.block h1; rwa [vat_block, vat_block] at this
  have eo : voff (vcut v 1 (vlen v) (vcap v) 1) = voff v + 1 := by
    have := congrArg Addr.off h1
    simpa [vat] using this
  refine ⟨by rw [eb]; exact hB, cur, by rw [eb]; exact hh, by rw [eo, vcap_cut]; omega, fun j hj => ?_⟩
  rw [eo, show voff v + 1 + j = voff v + (j + 1) by omega, hc (j + 1) (by simp; omega)]
  simp
/-- The slice's first k elements. -/
theorem OwnG.head (h : OwnG w B e v cs) {k : Nat} (hk : k ≤ cs.length) : OwnG w B e (vcut v 0 k (vcap v) 1) (cs.take k) := by
  have hl := h.2.1
  have hle := h.1.le
  refine ⟨isSl_cut h.1 (by omega) (by omega) (Nat.le_refl _), by rw [vlen_cut, List.length_take]; omega, fun h0 => ?_⟩
  rw [vcap_cut] at h0
  obtain ⟨hB, cur, hh, hs, hc⟩ := h.2.2 (by omega)
  have h1 := vat_cut h.1 (l := 0) (h := k) (m := vcap v) (s := 1) 0 (by omega) (Nat.le_refl _)
  have eb : vblk (vcut v 0 k (vcap v) 1) = vblk v := by have := congrArg Addr.block h1; rwa [vat_block, vat_block] at this
  have eo : voff (vcut v 0 k (vcap v) 1) = voff v := by
    have := congrArg Addr.off h1
    simpa [vat] using this
  refine ⟨by rw [eb]; exact hB, cur, by rw [eb]; exact hh, by rw [eo, vcap_cut]; omega, fun j hj => ?_⟩
  rw [List.length_take] at hj
  rw [eo, hc j (by omega), List.getElem?_take, if_pos (by omega)]
end

/-- append of one row. -/
theorem run_pushG {w : World} (ty : TypeId) {B : Nat} {v u : Value} {cs : List Value} (hown : OwnG w B 22 v cs) (hu : IsSl u) (hB : B ≤ w.heap.size) (hlen : cs.length ≤ 1000000) :
    ∃ v' w', (Builtin.append_ #[41, 41] ty #[v, .slice (some ⟨w.heap.size, 0, none⟩) 1 1]).run Try.prog (w.alloc (.cells #[u] 22)) = .ok v' w' ∧
      OwnG w' B 22 v' (cs ++ [u]) ∧ w.grownBy w' (row v) ∧ (∀ k, row v' = some k → row v = some k ∨ w.heap.size ≤ k) ∧ IsSl v' := by
  obtain ⟨i, hi, hz0, hz1, hz2⟩ := info_parts info_slice
  have hl := hown.2.1
  have h1u : ∀ x ∈ [u], x.oneCell' = true := by intro x hx; simp at hx; subst hx; exact oneCell'_sl hu
  have hnews : ∀ j x, [u][j]? = some x → (w.alloc (.cells #[u] 22)).cell? ((⟨w.heap.size, 0, none⟩ : Addr).add j) = some x := by
    intro j x hx
    have := (sl_one w u 22).2.2 j x hx
    rw [vat_mk] at this
    rw [Addr.add_lit]; exact this
  have hown' := hown.alloc (.cells #[u] 22)
  have gal : ∀ {w2 : World} {r : Option Nat}, (w.alloc (.cells #[u] 22)).grownBy w2 r → w.grownBy w2 r := by
    intro w2 r hg
    exact ⟨hg.os, hg.tape, hg.output, by have := hg.size; simp at this; omega, fun k hk hr => (hg.block k (by simp; omega) hr).trans (Below.heap_alloc w _ k hk)⟩
  by_cases hnil : vcap v = 0
  · -- no room, no cells: nil, or an empty slice
    have hcs : cs = [] := List.eq_nil_of_length_eq_zero (by have := hown.1.le; omega)
    subst hcs
    obtain ⟨a, n, c, rfl, hn, hc, ha⟩ := hown.1.cases
    simp only [vcap_mk, vlen_mk, List.length_nil] at hnil hl
    subst hnil
    obtain rfl : n = 0 := hl.symm
    have hx := sl_one w u 22
    obtain ⟨v', w', hr, ho, hg, hrow⟩ := run_append_sl (P := Try.prog) (w.alloc (.cells #[u] 22)) B 41 ty 22 i _ 1 24 Try.underlying41 hi hz0 hz1 hz2 rfl (by decide)
      (v := .slice a 0 0) (x := .slice (some ⟨w.heap.size, 0, none⟩) 1 1) (cs := []) (news := [u]) ⟨hown.1, by simp, by simp⟩ hx h1u (by simp [maxLen]) (by simp) (by simp; omega)
    have hrow' : ∀ k, row v' = some k → row (.slice a 0 0) = some k ∨ w.heap.size ≤ k := fun k hk => (hrow k hk).imp id (fun h => by simp at h; omega)
    exact ⟨v', w', hr, by simpa using own_G ho, gal hg, hrow', ho.1⟩
  · obtain ⟨a, n, c, rfl, hn, hc, ha⟩ := hown.1.cases
    simp only [vcap_mk, vlen_mk] at hnil hl
    obtain ⟨g, o, rfl⟩ := ha (by omega)
    by_cases hroom : n + 1 ≤ c
    · have hr := run_append_room_cells (P := Try.prog) (w.alloc (.cells #[u] 22)) 41 ty 22 i Try.underlying41 hi g o n c ⟨w.heap.size, 0, none⟩ 1 1 [u] (by rw [hz1]; rfl) hnews h1u hroom
        (by intro j hj; have := hown'.there (j := n + j) (by simp at hj ⊢; omega); rw [vat_mk] at this; rw [hz1, Nat.mul_one, show o + n + j = o + (n + j) by omega]; exact this)
        (by intro j hj; have := hown'.frozen (j := n + j) (by simp at hj ⊢; omega); rw [vat_mk] at this; rw [hz1, Nat.mul_one, show o + n + j = o + (n + j) by omega]; exact this)
      rw [hz1, Nat.mul_one] at hr
      have hset : (w.alloc (.cells #[u] 22)).setCells g (o + n) [u] = (w.alloc (.cells #[u] 22)).setCell ⟨g, o + n, none⟩ u := rfl
      rw [hset] at hr
      refine ⟨_, _, hr, ⟨isSl_mk _ _ _ _ hroom hc, by simp; omega, fun _ => ?_⟩, gal ⟨rfl, rfl, rfl, by simp, fun k _ hk => Below.heap_setCell _ _ _ k (fun e => hk (by rw [row_some (v := .slice (some ⟨g, o, none⟩) n c) (by simp; omega), vblk_mk, e]))⟩, fun k hk => .inl ?_, isSl_mk _ _ _ _ hroom hc⟩
      · obtain ⟨hBg, cur, hh, hs, hcc⟩ := hown'.2.2 (by simp; omega)
        have e1 : vblk (.slice (some ⟨g, o, none⟩) n c) = g := rfl
        have e2 : voff (.slice (some ⟨g, o, none⟩) n c) = o := rfl
        have e3 : vblk (.slice (some ⟨g, o, none⟩) (n + 1) c) = g := rfl
        have e4 : voff (.slice (some ⟨g, o, none⟩) (n + 1) c) = o := rfl
        rw [e1] at hBg hh
        rw [e2, vcap_mk] at hs
        rw [e2] at hcc
        rw [e3, e4, vcap_mk]
        refine ⟨hBg, cur.setIfInBounds (o + n) u, by simp only [World.setCell, Array.getElem?_modify, hh]; simp, by simpa using hs, fun j hj => ?_⟩
        rw [List.length_append] at hj
        simp only [List.length_cons, List.length_nil] at hj
        by_cases ej : j = n
        · subst ej
          rw [Array.getElem?_setIfInBounds_self_of_lt (by omega), ← hl]; simp
        · rw [Array.getElem?_setIfInBounds_ne (by omega), hcc j (by omega), List.getElem?_append_left (by omega)]
      · obtain ⟨_, hk⟩ := row_eq hk
        rw [row_some (v := .slice (some ⟨g, o, none⟩) n c) (by simp; omega), vblk_mk]; simpa [vblk] using hk
    · obtain ⟨v', w', hr, ho, hg⟩ := run_append_arg_grows (P := Try.prog) (w.alloc (.cells #[u] 22)) 41 ty 22 i _ 1 24 Try.underlying41 hi hz0 hz1 hz2 rfl (by decide)
        ⟨g, o, none⟩ n c cs (by omega) (by intro j x hx; have := hown'.sl.2.2 j x hx; rw [vat_mk] at this; rw [Addr.add_lit]; exact this) ⟨w.heap.size, 0, none⟩ 1 1 [u] (by simp) hnews (by omega) (by simp only [maxLen]; omega) (by omega)
      obtain ⟨hol, ho⟩ := ho
      rcases ho with ⟨rfl, h0⟩ | ⟨g2, c2, cur, rfl, hb2, hh2, h3, h4, h5, h6⟩
      · simp at h0
      · refine ⟨_, _, hr, ⟨isSl_mk _ _ _ _ h3 h4, by simp; omega, fun _ => ⟨?_, cur, hh2, ?_, fun j hj => ?_⟩⟩, gal ⟨hg.os, hg.tape, hg.output, hg.size, fun k hk _ => hg.block k hk (by simp)⟩, fun k hk => .inr ?_, isSl_mk _ _ _ _ h3 h4⟩
        · show B ≤ g2; simp at hb2; omega
        · show 0 + c2 ≤ cur.size; omega
        · show cur[0 + j]? = _
          have h7 : (cur.toList.take (cs ++ [u]).length)[j]? = (cs ++ [u])[j]? := by rw [hol, h6]
          rw [List.getElem?_take, if_pos hj] at h7
          rw [Nat.zero_add]; simpa using h7
        · obtain ⟨_, hk⟩ := row_eq hk
          have : g2 = k := hk
          simp at hb2; omega

end Go.Proofs.Ytnmklkjlcpgjmaa

namespace Go.Proofs.Ytnmklkjlcpgjmaa
open Go.RowKit Go.Sl

/-- The call's own slice of the call's own rows, none empty, each in a block of its own. -/
structure RO (W : World) (B : Nat) (v : Value) (vs : List Value) (xss : List (List Int)) : Prop where
  own : Go.Sl.Own W B 22 1 v vs
  len : vs.length = xss.length
  row : ∀ i, i < xss.length → OwnI W B (nthv vs i) (nthr xss i)
  pos : ∀ i, i < xss.length → 0 < (nthr xss i).length
  apart : ∀ i, i < xss.length → Go.Sl.row v ≠ some (vblk (nthv vs i))
  each : ∀ i j, i < j → j < xss.length → vblk (nthv vs i) ≠ vblk (nthv vs j)
section
variable {W W' : World} {B : Nat} {u r : Value} {vs : List Value} {xss : List (List Int)} {ys : List Int}
theorem RO.rows (h : RO W B u vs xss) : RowsV W u vs xss := ⟨h.own.sl, h.len, fun i hi => (h.row i hi).ints⟩
theorem RO.below (h : RO W B u vs xss) (hb : Below W.heap.size W W') : RO W' B u vs xss := ⟨h.own.below hb, h.len, fun i hi => (h.row i hi).below hb, h.pos, h.apart, h.each⟩
theorem RO.low {B' : Nat} (h : RO W B u vs xss) (hB : B' ≤ B) : RO W B' u vs xss := ⟨h.own.low hB, h.len, fun i hi => (h.row i hi).low hB, h.pos, h.apart, h.each⟩
theorem RO.rowAt (h : RO W B u vs xss) {i : Nat} (hi : i < xss.length) : Go.Sl.row (nthv vs i) = some (vblk (nthv vs i)) := row_some (by have := (h.row i hi).ints.cap; have := h.pos i hi; omega)
theorem RO.blk (h : RO W B u vs xss) {i : Nat} (hi : i < xss.length) : B ≤ vblk (nthv vs i) ∧ vblk (nthv vs i) < W.heap.size := (h.row i hi).lt _ (h.rowAt hi)
end
end Go.Proofs.Ytnmklkjlcpgjmaa

namespace Go.Proofs.Ytnmklkjlcpgjmaa
open Go.RowKit Go.Sl

section
variable {n l r : Nat} {D A B : List Int} {X : List (List Int)}
structure MachC (n l r : Nat) (D A B : List Int) (X : List (List Int)) (V : List Int) (R : List LL) : Prop extends MachR n l r D A B X V R where
  front : ∀ R1 z k e q R2, R = R1 ++ (z, some (k, e, q)) :: R2 → 2 ≤ k → SFree 1 (fsts R1)
  cos : ∀ R1 z k e q R2, R = R1 ++ (z, some (k, e, q)) :: R2 → 2 ≤ k → Sam n 1 (V ++ fsts R1) (vy k e q)
  qin : ∀ R1 z k e q R2, R = R1 ++ (z, some (k, e, q)) :: R2 → InB n A B q
theorem MachC.shift {V : List Int} {y : LL} {R : List LL} (h : MachC n l r D A B X V (y :: R)) (hz : ¬ closeAt V y.1) : MachC n l r D A B X (V ++ [y.1]) R := by
  refine ⟨h.toMachR.shift hz, fun R1 z k ε q R2 er hk => ?_, fun R1 z k ε q R2 er hk => ?_, fun R1 z k ε q R2 er => h.qin (y :: R1) z k ε q R2 (by rw [er]; rfl)⟩
  · have := h.front (y :: R1) z k ε q R2 (by rw [er]; rfl) hk
    rw [fsts_cons] at this
    exact fun x hx => this x (by simp [hx])
  · have := h.cos (y :: R1) z k ε q R2 (by rw [er]; rfl) hk
    rw [fsts_cons] at this
    simpa using this
theorem MachC.del (hn : n ≤ 1000) (h2 : 2 ≤ n) (hD : IsUp n D (hf n)) (hA : LtW n A) (hX : Cover n A B X) {V : List Int} {y y' : LL} {R1 R2 : List LL} (h : MachC n l r D A B X V (R1 ++ y :: y' :: R2)) (hy : y'.1 = -y.1) : MachC n l r D A B X V (R1 ++ R2) := by
  have old : ∀ S1 z k ε q S2, R1 ++ R2 = S1 ++ (z, some (k, ε, q)) :: S2 → (∃ u, R1 ++ y :: y' :: R2 = S1 ++ (z, some (k, ε, q)) :: u) ∨ ∃ u, S1 = R1 ++ u ∧ R1 ++ y :: y' :: R2 = (R1 ++ y :: y' :: u) ++ (z, some (k, ε, q)) :: S2 := by
    intro S1 z k ε q S2 er
    rcases app_casesL er with ⟨u, a1, a2⟩ | ⟨u, a1, a2⟩
    · cases u with
      | nil =>
        rw [List.nil_append] at a2
        rw [List.append_nil] at a1
        exact .inr ⟨[], by rw [a1]; simp, by rw [← a2]; simp⟩
      | cons t u =>
        obtain ⟨rfl, a3⟩ := List.cons.inj a2
        exact .inl ⟨u ++ y :: y' :: R2, by rw [a1]; simp⟩
    · exact .inr ⟨u, a1, by rw [a2]; simp⟩
  have ly : LtB n y.1 := h.toMach.lt y.1 (by rw [fsts_append, fsts_cons]; simp)
  refine ⟨h.toMachR.del hn h2 hD hA hX hy, fun S1 z k ε q S2 er hk => ?_, fun S1 z k ε q S2 er hk => ?_, fun S1 z k ε q S2 er => ?_⟩
  · rcases old S1 z k ε q S2 er with ⟨u, hu⟩ | ⟨u, a1, a2⟩
    · exact h.front S1 z k ε q u hu hk
    · have := h.front _ z k ε q S2 a2 hk
      rw [a1]
      intro x hx
      refine this x ?_
      rw [fsts_append] at hx ⊢
      rw [fsts_cons, fsts_cons]
      rcases List.mem_append.1 hx with hx | hx
      · simp [hx]
      · simp [hx]
  · rcases old S1 z k ε q S2 er with ⟨u, hu⟩ | ⟨u, a1, a2⟩
    · exact h.cos S1 z k ε q u hu hk
    · have := h.cos _ z k ε q S2 a2 hk
      refine Sam.trans (Sam.of ?_) this
      rw [a1, fsts_append, fsts_append, fsts_cons, fsts_cons, hy]
      have := BE.ctx (V ++ fsts R1) (fsts u) (BE.cancel ly)
      simpa using this.symm
  · rcases old S1 z k ε q S2 er with ⟨u, hu⟩ | ⟨u, a1, a2⟩
    · exact h.qin S1 z k ε q u hu
    · exact h.qin _ z k ε q S2 a2
theorem MachC.red (hn : n ≤ 1000) (h2 : 2 ≤ n) (hD : IsUp n D (hf n)) (hA : LtW n A) (hX : Cover n A B X) {P M : List Int} {x : Int} {y : LL} {R : List LL} (h : MachC n l r D A B X (P ++ x :: M) (y :: R)) (hM : ∀ y ∈ M, x.natAbs < y.natAbs) (hy : y.1 = -x) :
    ∃ L, fsts L = midW x M ∧ MachC n l r D A B X P (L ++ R) ∧ muL n X (L ++ R) < muL n X (y :: R) := by
  obtain ⟨L, hL, hm, hmu, hLn⟩ := h.toMachR.red2 hn h2 hD hA hX hM hy
  have e1 : (P ++ x :: M) ++ fsts (y :: R) = P ++ (x :: M ++ (-x) :: fsts R) := by rw [fsts_cons, hy]; simp
  have hl := h.toMach.lt
  rw [e1] at hl
  have lx : LtB n x := hl x (by simp)
  have lM : LtW n M := fun z hz => hl z (by simp [hz])
  have lV : LtW n (P ++ x :: M) := h.toMach.lt.left
  have dV : DrF n A B [] (P ++ x :: M) := h.toMach.dr.left
  have hxs : -(x.sign * ((x.natAbs : Nat) : Int)) = -x := by rw [Int.sign_mul_natAbs]
  have vert : ∀ a b, M = a ++ b → LtW n (P ++ [x] ++ a) ∧ InB n A B (P ++ [x] ++ a) := fun a b e => by
    have e3 : P ++ x :: M = (P ++ [x] ++ a) ++ b := by rw [e]; simp
    exact ⟨by rw [e3] at lV; exact lV.left, by simpa using dV _ b e3⟩
  have vyp : ∀ a b, M = a ++ b → BE n (vy x.natAbs x.sign (repX n X (P ++ [x] ++ a))) (P ++ midW x a) := fun a b e => by
    obtain ⟨v1, v2⟩ := vert a b e
    have h3 := ((hX.rep v1 v2).2.symm).post [-x]
    have lM' : LtW n a := fun z hz => lM z (by rw [e]; simp [hz])
    have h4 := ((midW_eq lx lM' fun z hz => hM z (by rw [e]; simp [hz])).pre P).post [-x]
    have h5 := cancelAt (v := P ++ midW x a) lx
    unfold vy
    rw [hxs]
    refine h3.trans ?_
    have h6 : BE n (P ++ [x] ++ a ++ [-x]) (P ++ (midW x a ++ [x]) ++ [-x]) := by simpa using h4
    refine h6.trans ?_
    simpa using h5
  have midBig : 2 ≤ x.natAbs → ∀ z ∈ midW x M, 1 < z.natAbs := fun hx2 z hz => by
    have := (midW_idx lx.1 hM z hz).1
    omega
  have split : ∀ S1 z k ε q S2, L ++ R = S1 ++ (z, some (k, ε, q)) :: S2 → (∃ u, L = S1 ++ (z, some (k, ε, q)) :: u) ∨ ∃ u, S1 = L ++ u ∧ y :: R = (y :: u) ++ (z, some (k, ε, q)) :: S2 := by
    intro S1 z k ε q S2 er
    rcases app_casesL er with ⟨u, a1, a2⟩ | ⟨u, a1, a2⟩
    · cases u with
      | nil =>
        rw [List.nil_append] at a2
        rw [List.append_nil] at a1
        exact .inr ⟨[], by rw [a1]; simp, by rw [← a2]; rfl⟩
      | cons t u =>
        obtain ⟨rfl, a3⟩ := List.cons.inj a2
        exact .inl ⟨u, a1⟩
    · exact .inr ⟨u, a1, by rw [a2]; rfl⟩
  have oldx : ∀ z k ε q S2 u, y :: R = (y :: u) ++ (z, some (k, ε, q)) :: S2 → 2 ≤ k → 2 ≤ x.natAbs ∧ SFree 1 (fsts u) := fun z k ε q S2 u er hk => by
    have := h.front _ z k ε q S2 er hk
    rw [fsts_cons, hy] at this
    have h3 := this (-x) (by simp)
    rw [Int.natAbs_neg] at h3
    exact ⟨h3, fun t ht => this t (by simp [ht])⟩
  refine ⟨L, hL, ⟨hm, fun S1 z k ε q S2 er hk => ?_, fun S1 z k ε q S2 er hk => ?_, fun S1 z k ε q S2 er => ?_⟩, hmu⟩
  · rcases split S1 z k ε q S2 er with ⟨u, hu⟩ | ⟨u, a1, a2⟩
    · obtain ⟨M1, y', M2, b1, b2, e2, e3, e4, e5⟩ := newL_split M (P ++ [x]) S1 _ u (hLn.symm.trans hu)
      simp only [Option.some.injEq, Prod.mk.injEq] at e5
      obtain ⟨rfl, rfl, rfl⟩ := e5
      intro t ht
      refine midBig hk t ?_
      rw [← hL, hu, fsts_append]
      simp [ht]
    · obtain ⟨h3, h4⟩ := oldx z k ε q S2 u a2 hk
      rw [a1, fsts_append, hL]
      intro t ht
      rcases List.mem_append.1 ht with ht | ht
      · exact midBig h3 t ht
      · exact h4 t ht
  · rcases split S1 z k ε q S2 er with ⟨u, hu⟩ | ⟨u, a1, a2⟩
    · obtain ⟨M1, y', M2, b1, b2, e2, e3, e4, e5⟩ := newL_split M (P ++ [x]) S1 _ u (hLn.symm.trans hu)
      simp only [Option.some.injEq, Prod.mk.injEq] at e5
      obtain ⟨rfl, rfl, rfl⟩ := e5
      have hv := vyp (M1 ++ [y']) M2 (by rw [e2]; simp)
      rw [← List.append_assoc] at hv
      have e6 : P ++ midW x (M1 ++ [y']) = (P ++ fsts S1) ++ (z :: b2) := by
        rw [e4, midW_append, midW_cons, e3]
        simp [midW]
      rw [e6] at hv
      have hsub : ∀ t ∈ z :: b2, t ∈ midW x M := fun t ht => by
        rw [e2, midW_append, midW_cons, e3]
        rcases List.mem_cons.1 ht with rfl | ht
        · simp
        · simp [ht]
      exact ⟨z :: b2, fun t ht => midBig hk t (hsub t ht), fun t ht => midW_lt lx lM t (hsub t ht), hv.symm⟩
    · have hc := h.cos _ z k ε q S2 a2 hk
      refine Sam.trans (Sam.of ?_) hc
      rw [a1, fsts_append, hL, fsts_cons, hy]
      have := BE.ctx P (fsts u) (handle_eq lx lM hM).symm
      simpa using this
  · rcases split S1 z k ε q S2 er with ⟨u, hu⟩ | ⟨u, a1, a2⟩
    · obtain ⟨M1, y', M2, b1, b2, e2, e3, e4, e5⟩ := newL_split M (P ++ [x]) S1 _ u (hLn.symm.trans hu)
      simp only [Option.some.injEq, Prod.mk.injEq] at e5
      obtain ⟨rfl, rfl, rfl⟩ := e5
      have e7 : M = (M1 ++ [y']) ++ M2 := by rw [e2]; simp
      obtain ⟨v1, v2⟩ := vert _ _ e7
      rw [← List.append_assoc] at v1 v2
      exact v2.congr (hX.rep v1 v2).2
    · exact h.qin _ z k ε q S2 a2
end
end Go.Proofs.Ytnmklkjlcpgjmaa

namespace Go.Proofs.Ytnmklkjlcpgjmaa
open Go.RowKit Go.Sl

section
variable {n l r : Nat} {D A B : List Int} {X : List (List Int)}
/-- A word on the way: the measure is at most m. -/
def OnWayC (n l r : Nat) (D A B : List Int) (X : List (List Int)) (w : List Int) (m : Nat) : Prop := ∃ V R, V ++ fsts R = w ∧ MachC n l r D A B X V R ∧ muL n X R ≤ m
theorem OnWayC.lt {w : List Int} {m : Nat} (h : OnWayC n l r D A B X w m) : LtW n w := by
  obtain ⟨V, R, rfl, hm, _⟩ := h
  exact hm.toMach.lt
/-- A pair that cancels. -/
theorem OnWayC.del (hn : n ≤ 1000) (h2 : 2 ≤ n) (hD : IsUp n D (hf n)) (hA : LtW n A) (hX : Cover n A B X) {a b : List Int} {x : Int} {m : Nat} (h : OnWayC n l r D A B X (a ++ x :: (-x) :: b) m) : OnWayC n l r D A B X (a ++ b) m := by
  obtain ⟨V, R, e, hm, hmu⟩ := h
  rcases app_cases e with ⟨u, e1, e2⟩ | ⟨u, e1, e2⟩
  · -- V = a ++ u
    rcases u with _ | ⟨t, _ | ⟨t', u⟩⟩
    · rw [List.append_nil] at e1
      rw [List.nil_append] at e2
      obtain ⟨y, R2, rfl, hy, e3⟩ := fsts_cons_split e2.symm
      obtain ⟨y', R3, rfl, hy', e4⟩ := fsts_cons_split e3
      have h3 := MachC.del hn h2 hD hA hX (R1 := []) hm (by rw [hy', hy])
      have h4 := mu_del (n := n) (X := X) y y' [] R3
      exact ⟨V, R3, by rw [e1, e4], h3, by simp only [List.nil_append] at h4; omega⟩
    · rw [List.cons_append, List.nil_append] at e2
      obtain ⟨rfl, e3⟩ := List.cons.inj e2
      obtain ⟨y, R2, rfl, hy, e4⟩ := fsts_cons_split e3.symm
      rw [e1] at hm
      obtain ⟨L, hL, h3, h4⟩ := MachC.red hn h2 hD hA hX (M := []) hm (fun z hz => by simp at hz) hy
      have : L = [] := by
        cases L with
        | nil => rfl
        | cons _ _ => simp [fsts, midW] at hL
      subst this
      exact ⟨a, R2, by rw [e4], by simpa using h3, by simp only [List.nil_append] at h4; omega⟩
    · exfalso
      rw [List.cons_append, List.cons_append] at e2
      obtain ⟨rfl, e3⟩ := List.cons.inj e2
      obtain ⟨rfl, e4⟩ := List.cons.inj e3
      refine hm.cl (a ++ [x]) (-x) u (by rw [e1]; simp) ⟨a, [], by rw [Int.neg_neg], fun z hz => by simp at hz⟩
  · -- a = V ++ u
    obtain ⟨R1, R2, rfl, e3, e4⟩ := fsts_split e2
    obtain ⟨y, R3, rfl, hy, e5⟩ := fsts_cons_split e4
    obtain ⟨y', R4, rfl, hy', e6⟩ := fsts_cons_split e5
    have h3 := MachC.del hn h2 hD hA hX hm (by rw [hy', hy])
    have h4 := mu_del (n := n) (X := X) y y' R1 R4
    exact ⟨V, R1 ++ R4, by rw [fsts_append, e3, e6, e1]; simp, h3, by omega⟩
/-- The reduced word. -/
theorem OnWayC.redL (hn : n ≤ 1000) (h2 : 2 ≤ n) (hD : IsUp n D (hf n)) (hA : LtW n A) (hX : Cover n A B X) {w : List Int} {m : Nat} (h : OnWayC n l r D A B X w m) : OnWayC n l r D A B X (redL w) m := by
  have key : ∀ (b s : List Int), OnWayC n l r D A B X (s.reverse ++ b) m → OnWayC n l r D A B X ((act s b).reverse) m := by
    intro b
    induction b with
    | nil => intro s h; simpa [act] using h
    | cons x b ih =>
      intro s h
      show OnWayC n l r D A B X ((act (psh s x) b).reverse) m
      refine ih _ ?_
      cases s with
      | nil => simpa [psh] using h
      | cons y t =>
        have ep : psh (y :: t) x = if y = -x then t else x :: y :: t := rfl
        rw [ep]
        by_cases hy : y = -x
        · rw [if_pos hy]
          subst hy
          have e : (-x :: t).reverse ++ x :: b = t.reverse ++ (-x) :: (- -x) :: b := by simp
          rw [e] at h
          exact h.del hn h2 hD hA hX
        · rw [if_neg hy]
          simpa using h
  have := key w [] (by simpa using h)
  exact this
/-- A handle. -/
theorem OnWayC.handle (hn : n ≤ 1000) (h2 : 2 ≤ n) (hD : IsUp n D (hf n)) (hA : LtW n A) (hX : Cover n A B X) {P M s : List Int} {x : Int} {m : Nat} (h : OnWayC n l r D A B X (P ++ x :: M ++ (-x) :: s) m) (hc : Clean (P ++ x :: M)) (hM : ∀ y ∈ M, x.natAbs < y.natAbs) : 0 < m ∧ OnWayC n l r D A B X (P ++ (midW x M ++ s)) (m - 1) := by
  obtain ⟨V, R, e, hm, hmu⟩ := h
  have cl : closeAt (P ++ x :: M) (-x) := ⟨P, M, by rw [Int.neg_neg], fun y hy => by rw [Int.natAbs_neg]; exact hM y hy⟩
  -- V is a part of P ++ x :: M
  have hpre : ∃ u, P ++ x :: M = V ++ u ∧ fsts R = u ++ (-x) :: s := by
    rcases app_cases e with ⟨u, e1, e2⟩ | ⟨u, e1, e2⟩
    · cases u with
      | nil => exact ⟨[], by rw [e1]; simp, by rw [List.nil_append] at e2 ⊢; exact e2.symm⟩
      | cons t u =>
        exfalso
        rw [List.cons_append] at e2
        obtain ⟨rfl, _⟩ := List.cons.inj e2
        exact hm.cl _ _ _ e1 cl
    · exact ⟨u, e1, e2⟩
  obtain ⟨u, e1, e2⟩ := hpre
  -- the letters ahead are passed
  have pass : ∀ (u V : List Int) (R : List LL), MachC n l r D A B X V R → P ++ x :: M = V ++ u → fsts R = u ++ (-x) :: s → ∃ R', MachC n l r D A B X (P ++ x :: M) R' ∧ fsts R' = (-x) :: s ∧ muL n X R' ≤ muL n X R := by
    intro u
    induction u with
    | nil =>
      intro V R hm e1 e2
      rw [List.append_nil] at e1
      exact ⟨R, by rw [e1]; exact hm, e2, Nat.le_refl _⟩
    | cons t u ih =>
      intro V R hm e1 e2
      obtain ⟨y, R2, rfl, hy, e3⟩ := fsts_cons_split e2
      have hno : ¬ closeAt V y.1 := by
        rw [hy]
        exact hc V t u e1
      have h3 := hm.shift hno
      rw [hy] at h3
      obtain ⟨R', h4, h5, h6⟩ := ih (V ++ [t]) R2 h3 (by rw [e1]; simp) e3
      have := mu_shift (n := n) (X := X) y R2
      exact ⟨R', h4, h5, by omega⟩
  obtain ⟨R', h3, h4, h5⟩ := pass u V R hm e1 e2
  obtain ⟨y, R2, rfl, hy, e3⟩ := fsts_cons_split h4
  obtain ⟨L, hL, h6, h7⟩ := MachC.red hn h2 hD hA hX h3 hM hy
  exact ⟨by omega, P, L ++ R2, by rw [fsts_append, hL, e3], h6, by omega⟩
/-- The start. -/
theorem OnWayC.start (_hD : IsUp n D (hf n)) {w : List Int} (hw : LtW n w) (hd : DrF n A B [] w) (hl : w.length ≤ l) (hr : Rho n r D w) : ∃ m, OnWayC n l r D A B X w m := by
  obtain ⟨R, hR⟩ : ∃ R : List LL, R = w.map fun z => (z, none) := ⟨_, rfl⟩
  have hf : fsts R = w := by rw [hR]; simp [fsts, Function.comp_def]
  have hno : ∀ R1 z k e q R2, R = R1 ++ (z, some (k, e, q)) :: R2 → False := fun R1 z k e q R2 er => by
    have : (z, some (k, e, q)) ∈ R := by rw [er]; simp
    rw [hR] at this
    obtain ⟨t, _, ht⟩ := List.mem_map.1 this
    simp at ht
  have h0 : R.filterMap vv = [] := by
    rw [hR, List.filterMap_map]
    exact List.filterMap_eq_nil_iff.2 fun z _ => rfl
  refine ⟨_, [], R, by rw [hf]; rfl, ⟨⟨⟨by rw [hf]; exact hw, by rw [hf]; exact hd, clean_nil, fun R1 z k e q R2 er => (hno R1 z k e q R2 er).elim, fun k q => ?_, ?_⟩, by rw [hf]; exact hr, fun R1 z k e q R2 er => (hno R1 z k e q R2 er).elim, by rw [h0]; exact List.Pairwise.nil, fun R1 z k e q R2 er => (hno R1 z k e q R2 er).elim⟩, fun R1 z k e q R2 er => (hno R1 z k e q R2 er).elim, fun R1 z k e q R2 er => (hno R1 z k e q R2 er).elim, fun R1 z k e q R2 er => (hno R1 z k e q R2 er).elim⟩, Nat.le_refl _⟩
  · have : R.countP (isLab k q) = 0 := List.countP_eq_zero.2 fun t ht hs => by
      rw [hR] at ht
      obtain ⟨z, _, rfl⟩ := List.mem_map.1 ht
      simp [isLab] at hs
    omega
  · have := List.countP_le_length (p := fun y : LL => y.2.isNone) (l := R)
    rw [hR, List.length_map] at this
    rw [hR]; omega


/-- At most c vertices of the interval in one coset; at most m in all. -/
def FewC (n : Nat) (A B : List Int) (c : Nat) : Prop := ∀ (V : List Int) (Z : List (List Int)), (∀ z ∈ Z, LtW n z ∧ InB n A B z ∧ Sam n 1 V z) → Z.Pairwise (fun a b => ¬ BE n a b) → Z.length ≤ c
def FewX (n : Nat) (A B : List Int) (m : Nat) : Prop := ∀ (Z : List (List Int)), (∀ z ∈ Z, LtW n z ∧ InB n A B z) → Z.Pairwise (fun a b => ¬ BE n a b) → Z.length ≤ m
theorem MachC.facts (hX : Cover n A B X) {V : List Int} {R : List LL} (h : MachC n l r D A B X V R) {y : LL} (hy : y ∈ R) {k : Nat} {e : Int} {q : List Int} (h2 : y.2 = some (k, e, q)) : LtW n (vy k e q) ∧ InB n A B (vy k e q) ∧ repX n X q = q ∧ LtW n [-(e * (k : Int))] ∧ LtW n q ∧ InB n A B q ∧ (2 ≤ k → Sam n 1 V (vy k e q)) := by
  obtain ⟨R1, R2, er⟩ := List.append_of_mem hy
  have er2 : R = R1 ++ (y.1, some (k, e, q)) :: R2 := by rw [er, ← h2]
  obtain ⟨i1, i2⟩ := h.inb _ _ _ _ _ _ er2
  have l := h.toMachR.ltv hX er2
  refine ⟨l, i1, i2, l.right, l.left, h.qin _ _ _ _ _ _ er2, fun hk => ?_⟩
  have f := h.front _ _ _ _ _ _ er2 hk
  have c := h.cos _ _ _ _ _ _ er2 hk
  have lV : LtW n (fsts R1) := by
    have := h.toMach.lt
    rw [er2, fsts_append, ← List.append_assoc] at this
    exact this.left.right
  exact Sam.trans ⟨fsts R1, f, lV, .refl _⟩ c
/-- Labels of index 2 and above. -/
theorem MachC.labels2 (hX : Cover n A B X) {c : Nat} (hC : FewC n A B c) {V : List Int} {R : List LL} (h : MachC n l r D A B X V R) (k : Nat) (hk : 2 ≤ k) (e : Int) : R.countP (isKE k e) ≤ 3 * c := by
  obtain ⟨R', hR'⟩ : ∃ R', R' = R.filter (isKE k e) := ⟨_, rfl⟩
  have hsub : List.Sublist R' R := by rw [hR']; exact List.filter_sublist
  have hmem : ∀ y ∈ R', ∃ q, y.2 = some (k, e, q) := fun y hy => by
    rw [hR'] at hy
    exact isKE_iff.1 (List.mem_filter.1 hy).2
  obtain ⟨S, hS, hd, hl⟩ := dedup labQ R'.length R' (Nat.le_refl _) fun b => by
    refine Nat.le_trans ?_ (h.ct k b)
    refine Nat.le_trans (List.countP_mono_left (p := fun a => decide (labQ a = b)) (q := isLab k b) fun y hy hq => ?_) hsub.countP_le
    obtain ⟨q, hq2⟩ := hmem y hy
    rw [decide_eq_true_eq] at hq
    have hq3 : q = b := by simpa [labQ, hq2] using hq
    exact isLab_iff.2 ⟨e, by rw [hq2, hq3]⟩
  rw [List.countP_eq_length_filter, ← hR']
  refine Nat.le_trans hl (Nat.mul_le_mul_left 3 ?_)
  have hSm : ∀ y ∈ S, y.2 = some (k, e, labQ y) := fun y hy => by
    obtain ⟨q, hq⟩ := hmem y (hS.subset hy)
    unfold labQ
    rw [hq]
  have facts := fun y (hy : y ∈ S) => h.facts hX (hsub.subset (hS.subset hy)) (hSm y hy)
  have := hC V (S.map fun y => vy k e (labQ y)) (fun z hz => ?_) ?_
  · simpa using this
  · obtain ⟨y, hy, rfl⟩ := List.mem_map.1 hz
    obtain ⟨a, b, _, _, _, _, d⟩ := facts y hy
    exact ⟨a, b, d hk⟩
  · refine List.pairwise_map.2 (List.Pairwise.imp_of_mem (fun {a b} ha hb hab hbe => hab ?_) hd)
    obtain ⟨_, _, ra, la, _⟩ := facts a ha
    obtain ⟨_, _, rb, _⟩ := facts b hb
    have h3 : BE n (labQ a) (labQ b) := hbe.cancelR la
    rw [← ra, ← rb]
    exact repX_congr h3
def isK1 (y : LL) : Bool := match y.2 with
  | some (k', _, _) => decide (k' = 1)
  | none => false
theorem isK1_iff {y : LL} : isK1 y = true ↔ ∃ e q, y.2 = some (1, e, q) := by
  unfold isK1
  rcases y with ⟨z, _ | ⟨k', e', q⟩⟩
  · simp
  · simp only [decide_eq_true_eq, Option.some.injEq, Prod.mk.injEq]
    exact ⟨fun h1 => ⟨e', q, h1, rfl, rfl⟩, fun ⟨_, _, h1, _⟩ => h1⟩
/-- Labels of index 1, by all vertices. -/
theorem MachC.labels1 (hX : Cover n A B X) {m : Nat} (hM : FewX n A B m) {V : List Int} {R : List LL} (h : MachC n l r D A B X V R) : R.countP isK1 ≤ 3 * m := by
  obtain ⟨R', hR'⟩ : ∃ R', R' = R.filter isK1 := ⟨_, rfl⟩
  have hsub : List.Sublist R' R := by rw [hR']; exact List.filter_sublist
  have hmem : ∀ y ∈ R', ∃ e q, y.2 = some (1, e, q) := fun y hy => by
    rw [hR'] at hy
    exact isK1_iff.1 (List.mem_filter.1 hy).2
  obtain ⟨S, hS, hd, hl⟩ := dedup labQ R'.length R' (Nat.le_refl _) fun b => by
    refine Nat.le_trans ?_ (h.ct 1 b)
    refine Nat.le_trans (List.countP_mono_left (p := fun a => decide (labQ a = b)) (q := isLab 1 b) fun y hy hq => ?_) hsub.countP_le
    obtain ⟨e, q, hq2⟩ := hmem y hy
    rw [decide_eq_true_eq] at hq
    have hq3 : q = b := by simpa [labQ, hq2] using hq
    exact isLab_iff.2 ⟨e, by rw [hq2, hq3]⟩
  rw [List.countP_eq_length_filter, ← hR']
  refine Nat.le_trans hl (Nat.mul_le_mul_left 3 ?_)
  have facts : ∀ y ∈ S, repX n X (labQ y) = labQ y ∧ LtW n (labQ y) ∧ InB n A B (labQ y) := fun y hy => by
    obtain ⟨e, q, hq⟩ := hmem y (hS.subset hy)
    obtain ⟨_, _, a, _, b, c, _⟩ := h.facts hX (hsub.subset (hS.subset hy)) hq
    have : labQ y = q := by unfold labQ; rw [hq]
    rw [this]
    exact ⟨a, b, c⟩
  have := hM (S.map labQ) (fun z hz => ?_) ?_
  · simpa using this
  · obtain ⟨y, hy, rfl⟩ := List.mem_map.1 hz
    exact ⟨(facts y hy).2.1, (facts y hy).2.2⟩
  · refine List.pairwise_map.2 (List.Pairwise.imp_of_mem (fun {a b} ha hb hab hbe => hab ?_) hd)
    rw [← (facts a ha).1, ← (facts b hb).1]
    exact repX_congr hbe
theorem k1_two (R : List LL) : (∀ y ∈ R, ∀ k e q, y.2 = some (k, e, q) → e = 1 ∨ e = -1) → R.countP isK1 ≤ R.countP (isKE 1 1) + R.countP (isKE 1 (-1)) := by
  induction R with
  | nil => intro _; simp
  | cons y R ih =>
    intro h
    have h1 := ih fun z hz => h z (by simp [hz])
    rw [List.countP_cons, List.countP_cons, List.countP_cons]
    by_cases hk : isK1 y = true
    · obtain ⟨e, q, hq⟩ := isK1_iff.1 hk
      rcases h y (by simp) 1 e q hq with rfl | rfl
      · rw [if_pos hk, if_pos (isKE_iff.2 ⟨q, hq⟩)]; omega
      · rw [if_pos hk, if_pos (show isKE 1 (-1) y = true from isKE_iff.2 ⟨q, hq⟩)]; omega
    · rw [if_neg hk]; omega
/-- No word on the way is long. -/
theorem MachC.len (h3 : 3 ≤ n) (hX : Cover n A B X) {M c b : Nat} (hF : Few n r D A B M) (hC : FewC n A B c) {V : List Int} {R : List LL} (h : MachC n l r D A B X V R) (hb : R.countP isK1 ≤ 3 * b) : (V ++ fsts R).length ≤ M + (l + (3 * b + (n - 3) * 2 * (3 * c))) := by
  have h1 := clean_few hF h.cl h.toMach.lt.left h.toMach.dr.left h.rho.left
  have h2 : R.countP (fun y => y.2.isSome) ≤ 3 * b + (n - 3) * 2 * (3 * c) := by
    obtain ⟨P, hP⟩ : ∃ P : List (Nat × Int), P = (List.range' 2 (n - 3)).flatMap fun k => [(k, 1), (k, -1)] := ⟨_, rfl⟩
    have h3 := count_cover (R := R) (P := none :: P.map some) (fun p => match p with | none => isK1 | some p => isKE p.1 p.2) fun y hy hs => by
      obtain ⟨R1, R2, e⟩ := List.append_of_mem hy
      rcases y with ⟨z, _ | ⟨k, e', q⟩⟩
      · simp at hs
      · obtain ⟨⟨he, hq, hk, hkn⟩, _⟩ := h.js R1 z k e' q R2 e
        by_cases hk1 : k = 1
        · subst hk1
          exact ⟨none, by simp, isK1_iff.2 ⟨e', q, rfl⟩⟩
        · refine ⟨some (k, e'), ?_, isKE_iff.2 ⟨q, rfl⟩⟩
          refine List.mem_cons_of_mem _ (List.mem_map.2 ⟨(k, e'), ?_, rfl⟩)
          rw [hP]
          refine List.mem_flatMap.2 ⟨k, List.mem_range'_1.2 ⟨by omega, by omega⟩, ?_⟩
          rcases he with rfl | rfl <;> simp
    rw [List.map_cons, List.sum_cons, List.map_map] at h3
    have hge : ∀ p ∈ P, 2 ≤ p.1 := fun p hp => by
      rw [hP] at hp
      obtain ⟨k, hk, hp⟩ := List.mem_flatMap.1 hp
      have := (List.mem_range'_1.1 hk).1
      simp only [List.mem_cons, List.not_mem_nil, or_false] at hp
      rcases hp with rfl | rfl <;> exact this
    have h4 : (P.map fun p => R.countP (isKE p.1 p.2)).sum ≤ P.length * (3 * c) := by
      clear h3 hP
      induction P with
      | nil => simp
      | cons p P ih =>
        have a := h.labels2 hX hC p.1 (hge p (by simp)) p.2
        have b := ih fun q hq => hge q (by simp [hq])
        rw [List.map_cons, List.sum_cons, List.length_cons, Nat.succ_mul]
        omega
    have h5 : P.length = (n - 3) * 2 := by
      rw [hP]
      have : ∀ (L : List Nat), (L.flatMap fun k => [(k, (1 : Int)), (k, -1)]).length = L.length * 2 := by
        intro L
        induction L with
        | nil => simp
        | cons a L ih => rw [List.flatMap_cons, List.length_append, ih, List.length_cons]; simp; omega
      rw [this, List.length_range']
    rw [h5] at h4
    have h6 : (P.map ((fun p => R.countP (match p with | none => isK1 | some p => isKE p.1 p.2)) ∘ some)).sum = (P.map fun p => R.countP (isKE p.1 p.2)).sum := rfl
    rw [h6] at h3
    have h7 : R.countP (match (none : Option (Nat × Int)) with | none => isK1 | some p => isKE p.1 p.2) = R.countP isK1 := rfl
    omega
  have h6 : R.length = R.countP (fun y => y.2.isNone) + R.countP (fun y => y.2.isSome) := by
    clear h h1 h2 hb
    induction R with
    | nil => rfl
    | cons y R ih =>
      rw [List.length_cons, List.countP_cons, List.countP_cons, ih]
      rcases y with ⟨z, _ | L⟩ <;> simp <;> omega
  have h7 := h.nn
  rw [List.length_append, show (fsts R).length = R.length by simp [fsts]]
  omega
theorem OnWayC.len (h3 : 3 ≤ n) (hX : Cover n A B X) {M c : Nat} (hF : Few n r D A B M) (hC : FewC n A B c) {w : List Int} {m : Nat} (h : OnWayC n l r D A B X w m) : w.length ≤ M + (l + (3 * (2 * M) + (n - 3) * 2 * (3 * c))) := by
  obtain ⟨V, R, rfl, hm, _⟩ := h
  refine hm.len h3 hX hF hC ?_
  have h1 := hm.toMachR.labels hX hF 1 1
  have h2 := hm.toMachR.labels hX hF 1 (-1)
  have := k1_two R fun y hy k e q hq => by
    obtain ⟨R1, R2, er⟩ := List.append_of_mem hy
    exact (hm.js R1 y.1 k e q R2 (by rw [er, ← hq])).1.1
  omega
theorem OnWayC.lenX (h3 : 3 ≤ n) (hX : Cover n A B X) {M c b : Nat} (hF : Few n r D A B M) (hC : FewC n A B c) (hM : FewX n A B b) {w : List Int} {m : Nat} (h : OnWayC n l r D A B X w m) : w.length ≤ M + (l + (3 * b + (n - 3) * 2 * (3 * c))) := by
  obtain ⟨V, R, rfl, hm, _⟩ := h
  exact hm.len h3 hX hF hC (hm.labels1 hX hM)
end
end Go.Proofs.Ytnmklkjlcpgjmaa


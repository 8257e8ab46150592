/- A handle's reduction keeps the relation of earlier and later vertices. No program. -/
import Derived.Test.YtnmklkjlcpgjmaaQDehornoyRelations0
import Derived.Test.YtnmklkjlcpgjmaaQDehornoyRelations1
import Derived.Test.YtnmklkjlcpgjmaaQDehornoyRelations2
import Derived.Test.YtnmklkjlcpgjmaaQDehornoyRelations3

namespace Go.Proofs.Ytnmklkjlcpgjmaa
open Go.RowKit Go.Sl

section
variable {n : Nat} {D w : List Int}
def LtW (n : Nat) (w : List Int) : Prop := ∀ x ∈ w, LtB n x
theorem LtW.app {a b : List Int} (h : LtW n a) (k : LtW n b) : LtW n (a ++ b) := fun x hx => (List.mem_append.1 hx).elim (h x) (k x)
theorem LtW.left {a b : List Int} (h : LtW n (a ++ b)) : LtW n a := fun x hx => h x (by simp [hx])
theorem LtW.right {a b : List Int} (h : LtW n (a ++ b)) : LtW n b := fun x hx => h x (by simp [hx])
/-- Below all vertices of the path; above all. -/
def LoB (n : Nat) (w z : List Int) : Prop := LtW n z ∧ ∀ p s, w = p ++ s → LeB n z p
def HiB (n : Nat) (w z : List Int) : Prop := LtW n z ∧ ∀ p s, w = p ++ s → LeB n p z
theorem LoB.down {z y : List Int} (h : LoB n w y) (hz : LtW n z) (k : LeB n z y) : LoB n w z := ⟨hz, fun p s e => k.trans (h.2 p s e)⟩
theorem HiB.up {z y : List Int} (h : HiB n w y) (hz : LtW n z) (k : LeB n y z) : HiB n w z := ⟨hz, fun p s e => (h.2 p s e).trans k⟩
/-- Two vertices of the path. -/
theorem between (hn : n ≤ 1000) (hD : IsUp n D (hf n)) (hw : LtW n w) {p s q t : List Int} (hp : w = p ++ s) (hq : w = q ++ t) {m : Int} (h1 : (posN w : Int) ≤ m) (h2 : (negN w : Int) ≤ m) : LeB n q (p ++ powB m D) := by
  rcases Nat.le_total p.length q.length with hl | hl
  · obtain ⟨u, rfl⟩ : ∃ u, q = p ++ u := by
      have e := hp.symm.trans hq
      rcases List.append_eq_append_iff.1 e with ⟨u, h3, _⟩ | ⟨u, h3, _⟩
      · exact ⟨u, h3⟩
      · have := congrArg List.length h3
        simp at this
        have : u = [] := List.eq_nil_of_length_eq_zero (by omega)
        subst this
        exact ⟨[], by simp at h3; simp [h3]⟩
    have hu : LtW n u := by rw [hq] at hw; exact (hw.left).right
    have hc : posN u ≤ posN w := by rw [hq, posN_append, posN_append]; omega
    exact (word_below hn hD hu (m := m) (by omega)).pre p
  · obtain ⟨u, rfl⟩ : ∃ u, p = q ++ u := by
      have e := hq.symm.trans hp
      rcases List.append_eq_append_iff.1 e with ⟨u, h3, _⟩ | ⟨u, h3, _⟩
      · exact ⟨u, h3⟩
      · have := congrArg List.length h3
        simp at this
        have : u = [] := List.eq_nil_of_length_eq_zero (by omega)
        subst this
        exact ⟨[], by simp at h3; simp [h3]⟩
    have hu : LtW n u := by rw [hp] at hw; exact (hw.left).right
    have hc : negN u ≤ negN w := by rw [hp, negN_append, negN_append]; omega
    have h3 := (word_below hn hD (invB_lt hu) (m := m) (by rw [posN_inv]; omega)).pre (q ++ u)
    have h4 := (BE.mulInv hu).pre q
    rw [List.append_nil] at h4
    rw [List.append_assoc] at h3
    refine h3.congr h4 ?_
    rw [List.append_assoc]; exact .refl _
/-- Two lower bounds: the greater one, if nothing above it is one. -/
theorem low_join (hn : n ≤ 1000) (h2 : 2 ≤ n) {A : List Int} (hmax : ∀ i, i + 1 < n → ¬ LoB n w (A ++ [ltr i])) {x : List Int} (_hx : LoB n w x) :
    ∀ (k : Nat) (z a b x : List Int), a.length ≤ k → LtW n z → PosW n a → PosW n b → BE n (z ++ a) A → BE n (z ++ b) x → LtW n A → LoB n w A → LoB n w x → LeB n x A := by
  clear _hx x
  intro k
  induction k with
  | zero =>
    intro z a b x hk hz ha hb hA hX lA loA loX
    cases b with
    | nil =>
      rw [List.append_nil] at hX
      exact (LeB.add ha).congr hX hA
    | cons j b =>
      exfalso
      obtain rfl := List.eq_nil_of_length_eq_zero (show a.length = 0 by omega)
      rw [List.append_nil] at hA
      obtain ⟨i, hi, rfl⟩ := ltr_of hb.hd
      refine hmax i hi (loX.down (lA.app (PosW.one (pos_ltr hi)).lt) ⟨b, hb.tl, ?_⟩)
      have h1 := hA.symm.post ([ltr i] ++ b)
      rw [List.append_assoc]
      exact h1.trans (by simpa using hX)
  | succ k ih =>
    intro z a b x hk hz ha hb hA hX lA loA loX
    cases b with
    | nil =>
      rw [List.append_nil] at hX
      exact (LeB.add ha).congr hX hA
    | cons j b =>
      cases a with
      | nil =>
        exfalso
        rw [List.append_nil] at hA
        obtain ⟨i, hi, rfl⟩ := ltr_of hb.hd
        refine hmax i hi (loX.down (lA.app (PosW.one (pos_ltr hi)).lt) ⟨b, hb.tl, ?_⟩)
        have h1 := hA.symm.post ([ltr i] ++ b)
        rw [List.append_assoc]
        exact h1.trans (by simpa using hX)
      | cons i a =>
        obtain ⟨j, hj, rfl⟩ := ltr_of hb.hd
        obtain ⟨i, hi, rfl⟩ := ltr_of ha.hd
        have hzi : LtW n (z ++ [ltr i]) := hz.app (PosW.one (pos_ltr hi)).lt
        have hzj : LtW n (z ++ [ltr j]) := hz.app (PosW.one (pos_ltr hj)).lt
        have hA' : BE n ((z ++ [ltr i]) ++ a) A := by simpa using hA
        have hX' : BE n ((z ++ [ltr j]) ++ b) x := by simpa using hX
        have hk' : a.length ≤ k := by simpa using hk
        have liA : LeB n (z ++ [ltr i]) A := ⟨a, ha.tl, hA'⟩
        have ljX : LeB n (z ++ [ltr j]) x := ⟨b, hb.tl, hX'⟩
        have hLtm : LtW n (z ++ lcmB i j) := hz.app (lcmB_pos hi hj).lt
        have loM : LoB n w (z ++ lcmB i j) := ⟨hLtm, fun p s e => LeB.lcm hn h2 hi hj hz (liA.trans (loA.2 p s e)) (ljX.trans (loX.2 p s e))⟩
        obtain ⟨r, hr⟩ := lcmB_head i j
        obtain ⟨r', hr'⟩ := lcmB_head j i
        have pr : PosW n r := by have := lcmB_pos hi hj; rw [hr] at this; exact this.tl
        have pr' : PosW n r' := by have := lcmB_pos hj hi; rw [hr'] at this; exact this.tl
        have m1 : LeB n (z ++ lcmB i j) A := ih (z ++ [ltr i]) a r _ hk' hzi ha.tl pr hA' (by rw [hr]; simp; exact .refl _) lA loA loM
        have jm : LeB n (z ++ [ltr j]) (z ++ lcmB i j) := ⟨r', pr', by
          have h3 := (ltr_swap hj hi).pre z
          rw [hr'] at h3
          rw [List.append_assoc]
          exact h3⟩
        obtain ⟨a2, ha2, hA2⟩ := jm.trans m1
        have hlen : a2.length = a.length := by
          have e1 := hA2.ex
          have e2 := hA'.ex
          rw [exB_append, exB_append, ha2.ex] at e1
          rw [exB_append, exB_append, ha.tl.ex] at e2
          have e3 := (PosW.one (pos_ltr hi)).ex
          have e4 := (PosW.one (pos_ltr hj)).ex
          simp only [List.length_cons, List.length_nil] at e3 e4
          omega
        exact ih (z ++ [ltr j]) a2 b x (by omega) hzj ha2 hb.tl hA2 hX' lA loA loX
/-- The greatest lower bound. -/
theorem low_exists (hn : n ≤ 1000) (h2 : 2 ≤ n) (hD : IsUp n D (hf n)) (hw : LtW n w) : ∃ A, LoB n w A ∧ ∀ x, LoB n w x → LeB n x A := by
  have h0 : LoB n w (powB (-(negN w : Int)) D) := ⟨powB_lt hD.lt _, fun p s e => word_above hn hD (by rw [e] at hw; exact hw.left) (by rw [e, negN_append]; omega)⟩
  have hmaxE : ∀ (k : Nat) (z : List Int), LoB n w z → exB z + k = 0 → ∃ A, LoB n w A ∧ ∀ i, i + 1 < n → ¬ LoB n w (A ++ [ltr i]) := by
    intro k
    induction k with
    | zero =>
      intro z hz e
      refine ⟨z, hz, fun i hi h => ?_⟩
      have h3 := (h.2 [] w (by simp)).exLe
      rw [exB_append, (PosW.one (pos_ltr hi)).ex] at h3
      simp [exB] at h3 e; omega
    | succ k ih =>
      intro z hz e
      by_cases h : ∃ i, i + 1 < n ∧ LoB n w (z ++ [ltr i])
      · obtain ⟨i, hi, h⟩ := h
        refine ih _ h ?_
        rw [exB_append, (PosW.one (pos_ltr hi)).ex]
        simp; omega
      · exact ⟨z, hz, fun i hi h3 => h ⟨i, hi, h3⟩⟩
  have hle := (h0.2 [] w (by simp)).exLe
  have hz0 : exB ([] : List Int) = 0 := rfl
  obtain ⟨A, hA, hmax⟩ := hmaxE (-(exB (powB (-(negN w : Int)) D))).toNat _ h0 (by omega)
  refine ⟨A, hA, fun x hx => ?_⟩
  obtain ⟨M, hM⟩ : ∃ M : Nat, M = max (negN A) (negN x) := ⟨_, rfl⟩
  obtain ⟨a, ha, hae⟩ := word_above hn hD hA.1 (m := (M : Int)) (by omega)
  obtain ⟨b, hb, hbe⟩ := word_above hn hD hx.1 (m := (M : Int)) (by omega)
  exact low_join hn h2 hmax hx a.length _ a b x (Nat.le_refl _) (powB_lt hD.lt _) ha hb hae hbe hA.1 hA hx
/-- .. and from above. -/
theorem high_join (hn : n ≤ 1000) (h2 : 2 ≤ n) (hw : LtW n w) {B : List Int} (hmin : ∀ i, i + 1 < n → ¬ HiB n w (B ++ [-ltr i])) :
    ∀ (k : Nat) (z a b x : List Int), a.length ≤ k → LtW n z → PosW n a → PosW n b → BE n (B ++ a.reverse) z → BE n (x ++ b.reverse) z → LtW n B → LtW n x → HiB n w B → HiB n w x → LeB n B x := by
  have stepD : ∀ {y z : List Int} {i : Nat} {c : List Int}, i + 1 < n → BE n (y ++ (ltr i :: c).reverse) z → BE n (y ++ c.reverse) (z ++ [-ltr i]) := by
    intro y z i c hi h
    have h1 := h.post [-ltr i]
    have h3 := (BE.cancel (n := n) (lt_ltr hi)).pre (y ++ c.reverse)
    simp only [List.reverse_cons, List.append_assoc, List.append_nil, List.cons_append, List.nil_append] at h1 h3
    exact h3.symm.trans h1
  have ng : ∀ {i : Nat}, i + 1 < n → LtW n [-ltr i] := fun {i} hi x hx => by
    rw [List.mem_singleton.1 hx]
    unfold ltr
    exact ⟨by omega, by omega⟩
  have low : ∀ {x B : List Int} {j : Nat} {b : List Int}, j + 1 < n → PosW n (ltr j :: b) → BE n (x ++ (ltr j :: b).reverse) B → LtW n B → LtW n x → HiB n w x → HiB n w (B ++ [-ltr j]) := by
    intro x B j b hj hb hX lB lx hix
    exact hix.up (lB.app (ng hj)) ⟨b.reverse, hb.tl.rev, stepD hj hX⟩
  intro k
  induction k with
  | zero =>
    intro z a b x hk hz ha hb hB hX lB lx hiB hiX
    obtain rfl := List.eq_nil_of_length_eq_zero (show a.length = 0 by omega)
    simp only [List.reverse_nil, List.append_nil] at hB
    cases b with
    | nil =>
      simp only [List.reverse_nil, List.append_nil] at hX
      exact LeB.of_eq (hB.trans hX.symm)
    | cons j b =>
      exfalso
      obtain ⟨j, hj, rfl⟩ := ltr_of hb.hd
      exact hmin j hj (low hj hb (hX.trans hB.symm) lB lx hiX)
  | succ k ih =>
    intro z a b x hk hz ha hb hB hX lB lx hiB hiX
    cases b with
    | nil =>
      simp only [List.reverse_nil, List.append_nil] at hX
      exact ⟨a.reverse, ha.rev, hB.trans hX.symm⟩
    | cons j b =>
      obtain ⟨j, hj, rfl⟩ := ltr_of hb.hd
      cases a with
      | nil =>
        exfalso
        simp only [List.reverse_nil, List.append_nil] at hB
        exact hmin j hj (low hj hb (hX.trans hB.symm) lB lx hiX)
      | cons i a =>
        obtain ⟨i, hi, rfl⟩ := ltr_of ha.hd
        have hB' := stepD hi hB
        have hX' := stepD hj hX
        have hk' : a.length ≤ k := by simpa using hk
        have hzi : LtW n (z ++ [-ltr i]) := hz.app (ng hi)
        have hzj : LtW n (z ++ [-ltr j]) := hz.app (ng hj)
        have liB : LeB n B (z ++ [-ltr i]) := ⟨a.reverse, ha.tl.rev, hB'⟩
        have ljX : LeB n x (z ++ [-ltr j]) := ⟨b.reverse, hb.tl.rev, hX'⟩
        have lM : LtW n (z ++ invB (lcmB i j)) := hz.app (invB_lt (lcmB_pos hi hj).lt)
        have hiM : HiB n w (z ++ invB (lcmB i j)) := ⟨lM, fun p s e => LeB.lcmR hn h2 hi hj (by rw [e] at hw; exact hw.left) ((hiB.2 p s e).trans liB) ((hiX.2 p s e).trans ljX)⟩
        obtain ⟨r, hr⟩ := lcmB_head i j
        obtain ⟨r', hr'⟩ := lcmB_head j i
        have pr : PosW n r := by have := lcmB_pos hi hj; rw [hr] at this; exact this.tl
        have pr' : PosW n r' := by have := lcmB_pos hj hi; rw [hr'] at this; exact this.tl
        have pal : ∀ {i j : Nat}, i + 1 < n → j + 1 < n → BE n (lcmB i j).reverse (lcmB i j) := by
          intro i j hi hj
          unfold lcmB
          split
          · rename_i hf; exact .far (lt_ltr hj) (lt_ltr hi) (by unfold ltr; omega)
          · split
            · exact .refl _
            · exact .refl _
        -- z lcm^-1 r = z i^-1, where lcm ends with i
        have back : ∀ {i j : Nat} {r : List Int}, i + 1 < n → j + 1 < n → lcmB i j = ltr i :: r → PosW n r → BE n (z ++ invB (lcmB i j) ++ r.reverse) (z ++ [-ltr i]) := by
          intro i j r hi hj hr pr
          have h1 := (pal hi hj).inv (lcmB_pos hi hj).rev.lt
          have e1 : invB (lcmB i j).reverse = [-ltr i] ++ invB r.reverse := by
            rw [hr, List.reverse_cons, invB_append]
            rfl
          rw [e1] at h1
          have h2 := BE.ctx z r.reverse h1.symm
          have h3 := (BE.invMul pr.rev.lt).pre (z ++ [-ltr i])
          simp only [List.append_assoc, List.append_nil] at h2 h3 ⊢
          exact h2.trans h3
        have m1 : LeB n B (z ++ invB (lcmB i j)) := ih (z ++ [-ltr i]) a r _ hk' hzi ha.tl pr hB' (back hi hj hr pr) lB lM hiB hiM
        have mj : LeB n (z ++ invB (lcmB i j)) (z ++ [-ltr j]) := by
          have h3 := back hj hi hr' pr'
          have h4 := ((ltr_swap hi hj).inv (lcmB_pos hi hj).lt).pre z
          exact ⟨r'.reverse, pr'.rev, (h4.post _).trans h3⟩
        obtain ⟨a2, ha2, hA2⟩ := m1.trans mj
        have hlen : a2.length = a.length := by
          have e1 := hA2.ex
          have e2 := hB'.ex
          rw [exB_append, exB_append, ha2.ex] at e1
          rw [exB_append, exB_append, ha.tl.rev.ex, List.length_reverse] at e2
          have e3 : ∀ {i : Nat}, i + 1 < n → exB [-ltr i] = -1 := fun {i} hi => by
            have := exB_inv [ltr i]
            rw [(PosW.one (pos_ltr hi)).ex] at this
            simpa [invB] using this
          rw [e3 hj] at e1
          rw [e3 hi] at e2
          omega
        exact ih (z ++ [-ltr j]) a2.reverse b x (by rw [List.length_reverse]; omega) hzj ha2.rev hb.tl (by rw [List.reverse_reverse]; exact hA2) hX' lB lx hiB hiX
/-- The least upper bound. -/
theorem high_exists (hn : n ≤ 1000) (h2 : 2 ≤ n) (hD : IsUp n D (hf n)) (hw : LtW n w) : ∃ B, HiB n w B ∧ ∀ x, HiB n w x → LeB n B x := by
  have h0 : HiB n w (powB (posN w : Int) D) := ⟨powB_lt hD.lt _, fun p s e => word_below hn hD (by rw [e] at hw; exact hw.left) (by rw [e, posN_append]; omega)⟩
  have ex1 : ∀ {i : Nat}, i + 1 < n → exB [-ltr i] = -1 := fun {i} hi => by
    have := exB_inv [ltr i]
    rw [(PosW.one (pos_ltr hi)).ex] at this
    simpa [invB] using this
  have hz0 : exB ([] : List Int) = 0 := rfl
  have hminE : ∀ (k : Nat) (z : List Int), HiB n w z → exB z = k → ∃ B, HiB n w B ∧ ∀ i, i + 1 < n → ¬ HiB n w (B ++ [-ltr i]) := by
    intro k
    induction k with
    | zero =>
      intro z hz e
      refine ⟨z, hz, fun i hi h => ?_⟩
      have h3 := (h.2 [] w (by simp)).exLe
      rw [exB_append, ex1 hi] at h3
      omega
    | succ k ih =>
      intro z hz e
      by_cases h : ∃ i, i + 1 < n ∧ HiB n w (z ++ [-ltr i])
      · obtain ⟨i, hi, h⟩ := h
        refine ih _ h ?_
        rw [exB_append, ex1 hi]
        omega
      · exact ⟨z, hz, fun i hi h3 => h ⟨i, hi, h3⟩⟩
  have hle := (h0.2 [] w (by simp)).exLe
  obtain ⟨B, hB, hmin⟩ := hminE (exB (powB (posN w : Int) D)).toNat _ h0 (by omega)
  refine ⟨B, hB, fun x hx => ?_⟩
  obtain ⟨M, hM⟩ : ∃ M : Nat, M = max (posN B) (posN x) := ⟨_, rfl⟩
  obtain ⟨a, ha, hae⟩ := word_below hn hD hB.1 (m := (M : Int)) (by omega)
  obtain ⟨b, hb, hbe⟩ := word_below hn hD hx.1 (m := (M : Int)) (by omega)
  exact high_join hn h2 hw hmin a.length _ a.reverse b.reverse x (by simp) (powB_lt hD.lt _) ha.rev hb.rev (by rw [List.reverse_reverse]; exact hae) (by rw [List.reverse_reverse]; exact hbe) hB.1 hx.1 hB hx
end
end Go.Proofs.Ytnmklkjlcpgjmaa

namespace Go.Proofs.Ytnmklkjlcpgjmaa
open Go.RowKit Go.Sl

section
variable {n : Nat} {A B : List Int}
/-- A vertex in the interval. -/
def InB (n : Nat) (A B v : List Int) : Prop := LeB n A v ∧ LeB n v B
theorem InB.congr {v v' : List Int} (h : InB n A B v) (e : BE n v v') : InB n A B v' := ⟨h.1.congr (.refl _) e, h.2.congr e (.refl _)⟩
/-- A path drawn from a vertex. -/
def DrF (n : Nat) (A B v w : List Int) : Prop := ∀ p s, w = p ++ s → InB n A B (v ++ p)
theorem DrF.start {v w : List Int} (h : DrF n A B v w) : InB n A B v := by simpa using h [] w (by simp)
theorem DrF.stop {v w : List Int} (h : DrF n A B v w) : InB n A B (v ++ w) := h w [] (by simp)
theorem DrF.left {v a b : List Int} (h : DrF n A B v (a ++ b)) : DrF n A B v a := fun p s e => h p (s ++ b) (by rw [e]; simp)
theorem DrF.right {v a b : List Int} (h : DrF n A B v (a ++ b)) : DrF n A B (v ++ a) b := fun p s e => by
  rw [List.append_assoc]; exact h (a ++ p) s (by rw [e]; simp)
theorem DrF.app {v a b : List Int} (h : DrF n A B v a) (k : DrF n A B (v ++ a) b) : DrF n A B v (a ++ b) := fun p s e => by
  rcases List.append_eq_append_iff.1 e with ⟨u, h3, h4⟩ | ⟨u, h3, h4⟩
  · rw [h3, ← List.append_assoc]; exact k u s h4
  · exact h p u h3
theorem DrF.congr {v v' w : List Int} (h : DrF n A B v w) (e : BE n v v') : DrF n A B v' w := fun p s h1 => (h p s h1).congr (e.post p)
theorem drF_one {v : List Int} {x : Int} (h : InB n A B v) (k : InB n A B (v ++ [x])) : DrF n A B v [x] := fun p s e => by
  cases p with
  | nil => rw [List.append_nil]; exact h
  | cons y p =>
    obtain ⟨rfl, h2⟩ := List.cons.inj e
    have : p = [] := List.append_eq_nil_iff.1 h2.symm |>.1
    rw [this]; exact k
/-- A way back. -/
theorem cancelAt {v : List Int} {x : Int} (hx : LtB n x) : BE n (v ++ [x] ++ [-x]) v := by
  have := (BE.cancel hx).pre v
  rw [List.append_nil] at this
  rw [List.append_assoc]; exact this
theorem lt_neg {x : Int} (h : LtB n x) : LtB n (-x) := ⟨by have := h.1; omega, by have := h.2; omega⟩
theorem pos_of {x : Int} (h : LtB n x) (hp : 0 < x) : ∃ i, i + 1 < n ∧ x = ltr i := ltr_of ⟨hp, by have := h.2; omega⟩
theorem neg_of {x : Int} (h : LtB n x) (hp : x < 0) : ∃ i, i + 1 < n ∧ x = -ltr i := by
  obtain ⟨i, hi, e⟩ := ltr_of (n := n) (x := -x) ⟨by omega, by have := h.2; omega⟩
  exact ⟨i, hi, by omega⟩
theorem le_up {v : List Int} {i : Nat} (hi : i + 1 < n) : LeB n v (v ++ [ltr i]) := LeB.add (.one (pos_ltr hi))
theorem le_down {v : List Int} {i : Nat} (hi : i + 1 < n) : LeB n (v ++ [-ltr i]) v := ⟨[ltr i], .one (pos_ltr hi), by
  have := cancelAt (v := v) (lt_neg (lt_ltr hi))
  rwa [Int.neg_neg] at this⟩
/-- Far letters: the other way around the square. -/
theorem square (hn : n ≤ 1000) (h2 : 2 ≤ n) (hA : LtW n A) {v : List Int} (hv : LtW n v) {x y : Int} (hx : LtB n x) (hy : LtB n y) (hf : x.natAbs + 1 < y.natAbs ∨ y.natAbs + 1 < x.natAbs) (h0 : InB n A B v) (h1 : InB n A B (v ++ [x])) (h3 : InB n A B (v ++ [x] ++ [y])) : InB n A B (v ++ [y]) := by
  have hc : BE n (v ++ [x] ++ [y]) (v ++ [y] ++ [x]) := by
    have := (BE.far hx hy hf).pre v
    simpa using this
  rcases Int.lt_or_lt_of_ne hx.1 with xn | xp
  · rcases Int.lt_or_lt_of_ne hy.1 with yn | yp
    · obtain ⟨i, hi, rfl⟩ := neg_of hx xn
      obtain ⟨j, hj, rfl⟩ := neg_of hy yn
      exact ⟨(h3.1.congr (.refl _) hc).trans (le_down hi), (le_down hj).trans h0.2⟩
    · obtain ⟨i, hi, rfl⟩ := neg_of hx xn
      obtain ⟨j, hj, rfl⟩ := pos_of hy yp
      refine ⟨h0.1.trans (le_up hj), ?_⟩
      have hb : LtW n (v ++ [-ltr i]) := hv.app (fun z hz => by rw [List.mem_singleton.1 hz]; exact hx)
      have e1 : BE n (v ++ [-ltr i] ++ [ltr i]) v := by have := cancelAt (v := v) hx; rwa [Int.neg_neg] at this
      have h4 := LeB.lcm hn h2 hi hj hb (h0.2.congr e1.symm (.refl _)) h3.2
      have e2 : lcmB i j = [ltr i] ++ [ltr j] := by unfold lcmB; rw [if_pos (by unfold ltr at hf; omega)]; rfl
      rw [e2, ← List.append_assoc] at h4
      exact h4.congr (e1.post _) (.refl _)
  · rcases Int.lt_or_lt_of_ne hy.1 with yn | yp
    · obtain ⟨i, hi, rfl⟩ := pos_of hx xp
      obtain ⟨j, hj, rfl⟩ := neg_of hy yn
      refine ⟨?_, (le_down hj).trans h0.2⟩
      have e1 : BE n (v ++ [ltr i] ++ [-ltr i]) v := cancelAt hx
      have h4 := LeB.lcmR hn h2 hj hi (z := A) (p := v ++ [ltr i]) hA h3.1 (h0.1.congr (.refl _) e1.symm)
      have e2 : invB (lcmB j i) = [-ltr i] ++ [-ltr j] := by unfold lcmB; rw [if_pos (by unfold ltr at hf; omega)]; rfl
      rw [e2, ← List.append_assoc] at h4
      exact h4.congr (.refl _) (e1.post _)
    · obtain ⟨i, hi, rfl⟩ := pos_of hx xp
      obtain ⟨j, hj, rfl⟩ := pos_of hy yp
      exact ⟨h0.1.trans (le_up hj), (le_up hi).trans (h3.2.congr hc (.refl _))⟩
theorem DrF.back {v w : List Int} (h : DrF n A B v w) (hw : LtW n w) : DrF n A B (v ++ w) (invB w) := fun p s e => by
  have e2 := congrArg invB e
  rw [invB_invB, invB_append] at e2
  have h1 := h (invB s) (invB p) e2
  refine h1.congr ?_
  rw [e2] at hw
  have h3 := (BE.invMul (n := n) (w := p) (by have := invB_lt hw.right; rwa [invB_invB] at this)).pre (v ++ invB s)
  rw [List.append_nil] at h3
  rw [e2]
  simp only [List.append_assoc] at h3 ⊢
  exact h3.symm
/-- What a letter between the ends of a handle becomes. -/
def midB (x y : Int) : List Int := if y.natAbs = x.natAbs + 1 then [-(x.sign * ((x.natAbs + 1 : Nat) : Int)), y.sign * (x.natAbs : Int), x.sign * ((x.natAbs + 1 : Nat) : Int)] else [y]
theorem midB_far {x y : Int} (h : y.natAbs ≠ x.natAbs + 1) : midB x y = [y] := if_neg h
theorem midB_near {x y : Int} (h : y.natAbs = x.natAbs + 1) : midB x y = [-(x.sign * ((x.natAbs + 1 : Nat) : Int)), y.sign * (x.natAbs : Int), x.sign * ((x.natAbs + 1 : Nat) : Int)] := if_pos h
theorem midB_inv (x y : Int) : invB (midB x (-y)) = midB x y := by
  unfold midB
  rw [Int.natAbs_neg]
  split
  · simp only [invB, List.map_cons, List.map_nil, List.reverse_cons, List.reverse_nil, List.nil_append, List.cons_append, Int.sign_neg, Int.neg_mul, Int.neg_neg]
  · simp [invB]
theorem sgn_pos {x : Int} (h : 0 < x) : x.sign = 1 := Int.sign_eq_one_of_pos h
theorem sgn_neg {x : Int} (h : x < 0) : x.sign = -1 := Int.sign_eq_neg_one_of_neg h
theorem ltr_abs (i : Nat) : (ltr i).natAbs = i + 1 := by unfold ltr; omega
theorem drF_three {v : List Int} {x y z : Int} (h0 : InB n A B v) (h1 : InB n A B (v ++ [x])) (h2 : InB n A B (v ++ [x] ++ [y])) (h3 : InB n A B (v ++ [x] ++ [y] ++ [z])) : DrF n A B v [x, y, z] :=
  DrF.app (a := [x]) (b := [y, z]) (drF_one h0 h1) (DrF.app (a := [y]) (b := [z]) (drF_one h1 h2) (drF_one h2 h3))
/-- The first end of a handle moves over a letter. -/
theorem moveR (hn : n ≤ 1000) (h2 : 2 ≤ n) (hA : LtW n A) {v : List Int} (hv : LtW n v) {x y : Int} (hx : LtB n x) (hy : LtB n y) (hf : x.natAbs + 1 < y.natAbs ∨ (y.natAbs = x.natAbs + 1 ∧ y.sign = -x.sign)) (h0 : InB n A B v) (h1 : InB n A B (v ++ [x])) (h3 : InB n A B (v ++ [x] ++ [y])) :
    DrF n A B v (midB x y ++ [x]) ∧ BE n (v ++ midB x y ++ [x]) (v ++ [x] ++ [y]) := by
  rcases hf with hf | ⟨hk, hs⟩
  · have h4 := square hn h2 hA hv hx hy (.inl hf) h0 h1 h3
    have hc : BE n (v ++ [y] ++ [x]) (v ++ [x] ++ [y]) := by
      have := (BE.far hy hx (.inr hf)).pre v
      simpa using this
    rw [midB_far (by omega)]
    exact ⟨DrF.app (drF_one h0 h4) (drF_one h4 (h3.congr hc.symm)), hc⟩
  · rw [midB_near hk]
    rcases Int.lt_or_lt_of_ne hx.1 with xn | xp
    · rw [sgn_neg xn] at hs ⊢
      have yp : 0 < y := by
        rcases Int.lt_or_lt_of_ne hy.1 with h | h
        · rw [sgn_neg h] at hs; omega
        · exact h
      rw [sgn_pos yp]
      obtain ⟨i, hi, rfl⟩ := neg_of hx xn
      obtain ⟨j, hj, rfl⟩ := pos_of hy yp
      rw [Int.natAbs_neg, ltr_abs, ltr_abs] at hk
      obtain rfl : j = i + 1 := by omega
      have e1 : -(-1 * ((((-ltr i).natAbs + 1 : Nat)) : Int)) = ltr (i + 1) := by rw [Int.natAbs_neg, ltr_abs]; unfold ltr; omega
      have e2 : (1 : Int) * ((-ltr i).natAbs : Int) = ltr i := by rw [Int.natAbs_neg, ltr_abs]; unfold ltr; omega
      have e3 : -1 * ((((-ltr i).natAbs + 1 : Nat)) : Int) = -ltr (i + 1) := by rw [Int.natAbs_neg, ltr_abs]; unfold ltr; omega
      rw [e1, e2, e3]
      obtain ⟨b, hb⟩ : ∃ b, b = v ++ [-ltr i] := ⟨_, rfl⟩
      rw [← hb] at h1 h3 ⊢
      have hbl : LtW n b := by rw [hb]; exact hv.app (fun z hz => by rw [List.mem_singleton.1 hz]; exact hx)
      have ev : BE n v (b ++ [ltr i]) := by
        have := cancelAt (v := v) hx
        rw [Int.neg_neg] at this
        rw [hb]; exact this.symm
      have h4 := LeB.lcm hn h2 hi hj hbl (h0.2.congr ev (.refl _)) h3.2
      have el : lcmB i (i + 1) = [ltr i, ltr (i + 1), ltr i] := by unfold lcmB; rw [if_neg (by omega), if_neg (by omega)]
      have br : BE n [ltr i, ltr (i + 1), ltr i] [ltr (i + 1), ltr i, ltr (i + 1)] := .braid (i := i + 1) (by omega) hj
      rw [el] at h4
      have c1 : BE n (v ++ [ltr (i + 1)]) (b ++ [ltr i, ltr (i + 1)]) := by have := ev.post [ltr (i + 1)]; simpa using this
      have c2 : BE n (v ++ [ltr (i + 1)] ++ [ltr i]) (b ++ [ltr i, ltr (i + 1), ltr i]) := by have := c1.post [ltr i]; simpa using this
      have c3 : BE n (v ++ [ltr (i + 1)] ++ [ltr i] ++ [-ltr (i + 1)]) (b ++ [ltr (i + 1)] ++ [ltr i]) := by
        have q1 := (c2.trans (br.pre b)).post [-ltr (i + 1)]
        have q2 := cancelAt (v := b ++ [ltr (i + 1)] ++ [ltr i]) (lt_ltr hj)
        simp only [List.append_assoc, List.cons_append, List.nil_append] at q1 q2 ⊢
        exact q1.trans q2
      have c4 : BE n (v ++ [ltr (i + 1)] ++ [ltr i] ++ [-ltr (i + 1)] ++ [-ltr i]) (b ++ [ltr (i + 1)]) := (c3.post [-ltr i]).trans (cancelAt (lt_ltr hi))
      have i1 : InB n A B (v ++ [ltr (i + 1)]) := ⟨h0.1.trans (le_up hj), (le_up hi).trans (h4.congr c2.symm (.refl _))⟩
      have i2 : InB n A B (v ++ [ltr (i + 1)] ++ [ltr i]) := ⟨i1.1.trans (le_up hi), h4.congr c2.symm (.refl _)⟩
      have i3 : InB n A B (v ++ [ltr (i + 1)] ++ [ltr i] ++ [-ltr (i + 1)]) := ⟨(h3.1.trans (le_up hi)).congr (.refl _) c3.symm, (le_down hj).trans i2.2⟩
      refine ⟨DrF.app (drF_three h0 i1 i2 i3) (drF_one (by simpa using i3) ?_), ?_⟩
      · have := h3.congr c4.symm
        simpa using this
      · simpa using c4
    · rw [sgn_pos xp] at hs ⊢
      have yn : y < 0 := by
        rcases Int.lt_or_lt_of_ne hy.1 with h | h
        · exact h
        · rw [sgn_pos h] at hs; omega
      rw [sgn_neg yn]
      obtain ⟨i, hi, rfl⟩ := pos_of hx xp
      obtain ⟨j, hj, rfl⟩ := neg_of hy yn
      rw [Int.natAbs_neg, ltr_abs, ltr_abs] at hk
      obtain rfl : j = i + 1 := by omega
      have e1 : -(1 * ((((ltr i).natAbs + 1 : Nat)) : Int)) = -ltr (i + 1) := by rw [ltr_abs]; unfold ltr; omega
      have e2 : (-1 : Int) * ((ltr i).natAbs : Int) = -ltr i := by rw [ltr_abs]; unfold ltr; omega
      have e3 : 1 * ((((ltr i).natAbs + 1 : Nat)) : Int) = ltr (i + 1) := by rw [ltr_abs]; unfold ltr; omega
      rw [e1, e2, e3]
      obtain ⟨b, hb⟩ : ∃ b, b = v ++ [ltr i] := ⟨_, rfl⟩
      rw [← hb] at h1 h3 ⊢
      have ev : BE n v (b ++ [-ltr i]) := by rw [hb]; exact (cancelAt hx).symm
      have h4 := LeB.lcmR hn h2 hi hj (z := A) (p := b) hA (h0.1.congr (.refl _) ev) h3.1
      have el : invB (lcmB i (i + 1)) = [-ltr i, -ltr (i + 1), -ltr i] := by unfold lcmB; rw [if_neg (by omega), if_neg (by omega)]; rfl
      have br : BE n [-ltr i, -ltr (i + 1), -ltr i] [-ltr (i + 1), -ltr i, -ltr (i + 1)] :=
        (BE.braid (n := n) (i := i + 1) (by omega) hj).inv (by
          intro z hz
          simp only [List.mem_cons, List.not_mem_nil, or_false] at hz
          rcases hz with rfl | rfl | rfl
          · exact lt_ltr hi
          · exact lt_ltr hj
          · exact lt_ltr hi)
      rw [el] at h4
      have c1 : BE n (v ++ [-ltr (i + 1)]) (b ++ [-ltr i, -ltr (i + 1)]) := by have := ev.post [-ltr (i + 1)]; simpa using this
      have c2 : BE n (v ++ [-ltr (i + 1)] ++ [-ltr i]) (b ++ [-ltr i, -ltr (i + 1), -ltr i]) := by have := c1.post [-ltr i]; simpa using this
      have c3 : BE n (v ++ [-ltr (i + 1)] ++ [-ltr i] ++ [ltr (i + 1)]) (b ++ [-ltr (i + 1)] ++ [-ltr i]) := by
        have q1 := (c2.trans (br.pre b)).post [ltr (i + 1)]
        have q2 := cancelAt (v := b ++ [-ltr (i + 1)] ++ [-ltr i]) (lt_neg (lt_ltr hj))
        rw [Int.neg_neg] at q2
        simp only [List.append_assoc, List.cons_append, List.nil_append] at q1 q2 ⊢
        exact q1.trans q2
      have c4 : BE n (v ++ [-ltr (i + 1)] ++ [-ltr i] ++ [ltr (i + 1)] ++ [ltr i]) (b ++ [-ltr (i + 1)]) := by
        have := cancelAt (v := b ++ [-ltr (i + 1)]) (lt_neg (lt_ltr hi))
        rw [Int.neg_neg] at this
        exact (c3.post [ltr i]).trans this
      have i1 : InB n A B (v ++ [-ltr (i + 1)]) := ⟨(h4.congr (.refl _) c2.symm).trans (le_down hi), (le_down hj).trans h0.2⟩
      have i2 : InB n A B (v ++ [-ltr (i + 1)] ++ [-ltr i]) := ⟨h4.congr (.refl _) c2.symm, (le_down hi).trans i1.2⟩
      have i3 : InB n A B (v ++ [-ltr (i + 1)] ++ [-ltr i] ++ [ltr (i + 1)]) := ⟨i2.1.trans (le_up hj), ((le_down hi).trans h3.2).congr c3.symm (.refl _)⟩
      refine ⟨DrF.app (drF_three h0 i1 i2 i3) (drF_one (by simpa using i3) ?_), ?_⟩
      · have := h3.congr c4.symm
        simpa using this
      · simpa using c4
theorem midB_lt {x y : Int} (hx : LtB n x) (hy : LtB n y) : LtW n (midB x y) := fun z hz => by
  unfold midB at hz
  split at hz
  · rename_i hk
    have h1 := hx.1; have h3 := hy.2; have h4 := hy.1
    simp only [List.mem_cons, List.not_mem_nil, or_false] at hz
    rcases Int.lt_or_lt_of_ne h1 with xn | xp
    · rw [sgn_neg xn] at hz
      rcases Int.lt_or_lt_of_ne h4 with yn | yp
      · rw [sgn_neg yn] at hz; exact ⟨by omega, by omega⟩
      · rw [sgn_pos yp] at hz; exact ⟨by omega, by omega⟩
    · rw [sgn_pos xp] at hz
      rcases Int.lt_or_lt_of_ne h4 with yn | yp
      · rw [sgn_neg yn] at hz; exact ⟨by omega, by omega⟩
      · rw [sgn_pos yp] at hz; exact ⟨by omega, by omega⟩
  · rw [List.mem_singleton.1 hz]; exact hy
/-- The last end of a handle moves back over a letter. -/
theorem moveL (hn : n ≤ 1000) (h2 : 2 ≤ n) (hA : LtW n A) {u : List Int} (hu : LtW n u) {x y : Int} (hx : LtB n x) (hy : LtB n y) (hf : x.natAbs + 1 < y.natAbs ∨ (y.natAbs = x.natAbs + 1 ∧ y.sign = x.sign)) (h0 : InB n A B u) (h1 : InB n A B (u ++ [y])) (h3 : InB n A B (u ++ [y] ++ [-x])) :
    DrF n A B u ([-x] ++ midB x y) ∧ BE n (u ++ [-x] ++ midB x y) (u ++ [y] ++ [-x]) := by
  have one : ∀ {z : Int}, LtB n z → LtW n [z] := fun {z} hz t ht => by rw [List.mem_singleton.1 ht]; exact hz
  have hv : LtW n (u ++ [y] ++ [-x]) := (hu.app (one hy)).app (one (lt_neg hx))
  have ex : BE n (u ++ [y] ++ [-x] ++ [x]) (u ++ [y]) := by
    have := cancelAt (v := u ++ [y]) (lt_neg hx)
    rwa [Int.neg_neg] at this
  have ey : BE n (u ++ [y] ++ [-x] ++ [x] ++ [-y]) u := (ex.post [-y]).trans (cancelAt hy)
  obtain ⟨d, e⟩ := moveR hn h2 hA hv hx (lt_neg hy) (by rw [Int.natAbs_neg, Int.sign_neg]; rcases hf with h | ⟨h, k⟩; exact .inl h; exact .inr ⟨h, by rw [k]⟩) h3 (h1.congr ex.symm) (h0.congr ey.symm)
  have hm := midB_lt hx (lt_neg hy)
  have hb := d.back (hm.app (one hx))
  have e2 : invB (midB x (-y) ++ [x]) = [-x] ++ midB x y := by rw [invB_append, midB_inv]; rfl
  rw [e2] at hb
  have es : BE n (u ++ [y] ++ [-x] ++ (midB x (-y) ++ [x])) u := by
    have := e.trans ey
    simpa using this
  refine ⟨hb.congr es, ?_⟩
  have h4 := es.symm.post ([-x] ++ midB x y)
  have h5 := (BE.mulInv (hm.app (one hx))).pre (u ++ [y] ++ [-x])
  rw [e2, List.append_nil] at h5
  simp only [List.append_assoc] at h4 h5 ⊢
  exact h4.trans h5
/-- The middle of a handle. -/
def midW (x : Int) (M : List Int) : List Int := M.flatMap (midB x)
theorem midW_cons (x y : Int) (M : List Int) : midW x (y :: M) = midB x y ++ midW x M := rfl
theorem midW_append (x : Int) (M N : List Int) : midW x (M ++ N) = midW x M ++ midW x N := by simp [midW]
theorem midW_lt {x : Int} (hx : LtB n x) {M : List Int} (hM : LtW n M) : LtW n (midW x M) := fun z hz => by
  obtain ⟨y, hy, hz⟩ := List.mem_flatMap.1 hz
  exact midB_lt hx (hM y hy) z hz
theorem chainR (hn : n ≤ 1000) (h2 : 2 ≤ n) (hA : LtW n A) {x : Int} (hx : LtB n x) (M : List Int) : ∀ v : List Int, LtW n v → LtW n M → (∀ y ∈ M, x.natAbs + 1 < y.natAbs ∨ (y.natAbs = x.natAbs + 1 ∧ y.sign = -x.sign)) → DrF n A B v (x :: M) → DrF n A B v (midW x M ++ [x]) ∧ BE n (v ++ midW x M ++ [x]) (v ++ x :: M) := by
  induction M with
  | nil => exact fun v _ _ _ h => ⟨by simpa [midW] using h, by simp [midW]; exact .refl _⟩
  | cons y M ih =>
    intro v hv hM hf h
    have hy := hM y (by simp)
    have hMM : LtW n M := fun z hz => hM z (by simp [hz])
    have i0 := h.start
    have i1 : InB n A B (v ++ [x]) := h [x] (y :: M) rfl
    have i2 : InB n A B (v ++ [x] ++ [y]) := by simpa using h [x, y] M rfl
    obtain ⟨d, e⟩ := moveR hn h2 hA hv hx hy (hf y (by simp)) i0 i1 i2
    have hR : DrF n A B (v ++ midB x y) (x :: M) := by
      have d1 := d.right
      have d2 := (DrF.right (a := [x, y]) (b := M) h).congr (v' := v ++ midB x y ++ [x]) (by have := e.symm; simpa using this)
      exact DrF.app (a := [x]) d1 d2
    obtain ⟨d3, e3⟩ := ih _ (hv.app (midB_lt hx hy)) hMM (fun z hz => hf z (by simp [hz])) hR
    rw [midW_cons]
    refine ⟨by rw [List.append_assoc]; exact DrF.app d.left d3, ?_⟩
    have h4 := e.post M
    simp only [List.append_assoc, List.cons_append, List.nil_append] at e3 h4 ⊢
    exact e3.trans h4
theorem chainL (hn : n ≤ 1000) (h2 : 2 ≤ n) (hA : LtW n A) {x : Int} (hx : LtB n x) (M : List Int) : ∀ v : List Int, LtW n v → LtW n M → (∀ y ∈ M, x.natAbs + 1 < y.natAbs ∨ (y.natAbs = x.natAbs + 1 ∧ y.sign = x.sign)) → DrF n A B v (M ++ [-x]) → DrF n A B v ([-x] ++ midW x M) ∧ BE n (v ++ [-x] ++ midW x M) (v ++ M ++ [-x]) := by
  induction M with
  | nil => exact fun v _ _ _ h => ⟨by simpa [midW] using h, by simp [midW]; exact .refl _⟩
  | cons y M ih =>
    intro v hv hM hf h
    have hy := hM y (by simp)
    have hMM : LtW n M := fun z hz => hM z (by simp [hz])
    have hvy : LtW n (v ++ [y]) := hv.app (fun z hz => by rw [List.mem_singleton.1 hz]; exact hy)
    obtain ⟨d, e⟩ := ih _ hvy hMM (fun z hz => hf z (by simp [hz])) (DrF.right (a := [y]) h)
    have i0 := h.start
    have i1 : InB n A B (v ++ [y]) := d.start
    have i2 : InB n A B (v ++ [y] ++ [-x]) := d [-x] _ rfl
    obtain ⟨d1, e1⟩ := moveL hn h2 hA hv hx hy (hf y (by simp)) i0 i1 i2
    rw [midW_cons]
    have d2 := (d.right (a := [-x])).congr e1.symm
    refine ⟨?_, ?_⟩
    · have := DrF.app (a := [-x] ++ midB x y) (b := midW x M) d1 (by simpa using d2)
      simpa using this
    · have h4 := e1.post (midW x M)
      simp only [List.append_assoc, List.cons_append, List.nil_append] at e h4 ⊢
      exact h4.trans e
/-- A handle is reduced within the interval. -/
theorem handle_drawn (hn : n ≤ 1000) (h2 : 2 ≤ n) (hA : LtW n A) {x : Int} (hx : LtB n x) {M v : List Int} (hv : LtW n v) (hM : LtW n M) (hf : (∀ y ∈ M, x.natAbs + 1 < y.natAbs ∨ (y.natAbs = x.natAbs + 1 ∧ y.sign = x.sign)) ∨ (∀ y ∈ M, x.natAbs + 1 < y.natAbs ∨ (y.natAbs = x.natAbs + 1 ∧ y.sign = -x.sign))) (h : DrF n A B v (x :: M ++ [-x])) :
    DrF n A B v (midW x M) ∧ BE n (v ++ midW x M) (v ++ (x :: M ++ [-x])) := by
  rcases hf with hf | hf
  · have hvx : LtW n (v ++ [x]) := hv.app (fun z hz => by rw [List.mem_singleton.1 hz]; exact hx)
    obtain ⟨d, e⟩ := chainL hn h2 hA hx M (v ++ [x]) hvx hM hf (DrF.right (a := [x]) h)
    have ec := cancelAt (v := v) hx
    refine ⟨(d.right (a := [-x])).congr ec, ?_⟩
    have h4 := (ec.post (midW x M)).symm
    simp only [List.append_assoc, List.cons_append, List.nil_append] at e h4 ⊢
    exact h4.trans e
  · obtain ⟨d, e⟩ := chainR hn h2 hA hx M v hv hM hf (DrF.left (b := [-x]) h)
    refine ⟨d.left, ?_⟩
    have h4 := cancelAt (v := v ++ midW x M) hx
    have h5 := e.post [-x]
    simp only [List.append_assoc, List.cons_append, List.nil_append] at e h4 h5 ⊢
    exact h4.symm.trans h5
end
end Go.Proofs.Ytnmklkjlcpgjmaa

namespace Go.Proofs.Ytnmklkjlcpgjmaa
open Go.RowKit Go.Sl

/-! ### Words without handles -/
/-- The letter z closes a handle behind V. -/
def closeAt (V : List Int) (z : Int) : Prop := ∃ x M, V = x ++ (-z) :: M ∧ ∀ y ∈ M, z.natAbs < y.natAbs
def Clean (V : List Int) : Prop := ∀ p z s, V = p ++ z :: s → ¬ closeAt p z
theorem clean_nil : Clean [] := fun p z s h => by simp at h
theorem Clean.left {a b : List Int} (h : Clean (a ++ b)) : Clean a := fun p z s e => h p z (s ++ b) (by rw [e]; simp)
theorem clean_snoc {V : List Int} {z : Int} (h : Clean V) (hz : ¬ closeAt V z) : Clean (V ++ [z]) := fun p y s e => by
  rcases List.append_eq_append_iff.1 e with ⟨u, h1, h2⟩ | ⟨u, h1, h2⟩
  · cases u with
    | nil =>
      simp only [List.append_nil, List.nil_append] at h1 h2
      obtain ⟨rfl, -⟩ := List.cons.inj h2
      rw [h1]; exact hz
    | cons t u =>
      have := (List.cons.inj h2).2
      simp at this
  · cases u with
    | nil =>
      simp only [List.append_nil, List.nil_append] at h1 h2
      obtain ⟨rfl, -⟩ := List.cons.inj h2
      rw [← h1]; exact hz
    | cons t u =>
      obtain ⟨rfl, h3⟩ := List.cons.inj h2
      exact h p y u h1
theorem snoc_cases (l : List Int) : l = [] ∨ ∃ a z, l = a ++ [z] := by
  rcases List.eq_nil_or_concat l with h | ⟨a, z, h⟩
  · exact .inl h
  · exact .inr ⟨a, z, by rw [h, List.concat_eq_append]⟩
/-- The last letter of index k. -/
theorem last_of {k : Nat} : ∀ (m : Nat) (U : List Int), U.length ≤ m → (∃ y ∈ U, y.natAbs = k) → ∃ a y b, U = a ++ y :: b ∧ y.natAbs = k ∧ ∀ t ∈ b, t.natAbs ≠ k := by
  intro m
  induction m with
  | zero => rintro U hU ⟨y, hy, _⟩; rw [List.eq_nil_of_length_eq_zero (show U.length = 0 by omega)] at hy; simp at hy
  | succ m ih =>
    rintro U hU ⟨y, hy, hk⟩
    rcases snoc_cases U with rfl | ⟨a, z, rfl⟩
    · simp at hy
    · by_cases hz : z.natAbs = k
      · exact ⟨a, z, [], rfl, hz, fun t ht => by simp at ht⟩
      · have hy' : y ∈ a := by
          rcases List.mem_append.1 hy with h | h
          · exact h
          · rw [List.mem_singleton.1 h] at hk; exact absurd hk hz
        obtain ⟨a', y', b', e, h1, h2⟩ := ih a (by simp at hU; omega) ⟨y, hy', hk⟩
        exact ⟨a', y', b' ++ [z], by rw [e]; simp, h1, fun t ht => by
          rcases List.mem_append.1 ht with h | h
          · exact h2 t h
          · rw [List.mem_singleton.1 h]; exact hz⟩
theorem mono_of_clean {k : Nat} (hk : 0 < k) : ∀ (m : Nat) (U p : List Int), U.length ≤ m → Clean (p ++ U) → (∀ y ∈ U, k ≤ y.natAbs) → ∃ s : Int, (s = 1 ∨ s = -1) ∧ Mono k s U := by
  intro m
  induction m with
  | zero => intro U p hU _ _; rw [List.eq_nil_of_length_eq_zero (show U.length = 0 by omega)]; exact ⟨1, .inl rfl, fun x hx => by simp at hx⟩
  | succ m ih =>
    intro U p hU hc hi
    rcases snoc_cases U with rfl | ⟨a, z, rfl⟩
    · exact ⟨1, .inl rfl, fun x hx => by simp at hx⟩
    · rw [← List.append_assoc] at hc
      have hia : ∀ y ∈ a, k ≤ y.natAbs := fun y hy => hi y (by simp [hy])
      obtain ⟨s, hs, hm⟩ := ih a p (by simp at hU; omega) hc.left hia
      have hz := hi z (by simp)
      by_cases hzk : z.natAbs = k
      · by_cases hex : ∃ y ∈ a, y.natAbs = k
        · obtain ⟨a', y, b, e, hy, hb⟩ := last_of a.length a (Nat.le_refl _) hex
          have hy0 := hm y (by rw [e]; simp)
          have hne : z ≠ -y := fun ez => hc (p ++ a) z [] rfl ⟨p ++ a', b, by rw [ez, Int.neg_neg, e]; simp, fun t ht => by
            have h1 := hia t (by rw [e]; simp [ht])
            have h2 := hb t ht
            omega⟩
          have hzy : z = y := by omega
          refine ⟨s, hs, fun x hx => ?_⟩
          rcases List.mem_append.1 hx with h | h
          · exact hm x h
          · rw [List.mem_singleton.1 h, hzy]; exact hy0
        · refine ⟨z.sign, ?_, fun x hx => ?_⟩
          · rcases Int.lt_or_lt_of_ne (show z ≠ 0 by omega) with h | h
            · exact .inr (sgn_neg h)
            · exact .inl (sgn_pos h)
          · rcases List.mem_append.1 hx with h | h
            · exact ⟨hia x h, fun ex => absurd ⟨x, h, ex⟩ hex⟩
            · rw [List.mem_singleton.1 h]
              refine ⟨hz, fun _ => ?_⟩
              rcases Int.lt_or_lt_of_ne (show z ≠ 0 by omega) with h | h
              · rw [sgn_neg h]; omega
              · rw [sgn_pos h]; omega
      · refine ⟨s, hs, fun x hx => ?_⟩
        rcases List.mem_append.1 hx with h | h
        · exact hm x h
        · rw [List.mem_singleton.1 h]; exact ⟨hz, fun e => absurd e hzk⟩
theorem split_low {k : Nat} : ∀ (m : Nat) (P : List Int), P.length ≤ m → ∃ T P2, P = T ++ P2 ∧ (T = [] ∨ ∃ T' c, T = T' ++ [c] ∧ c.natAbs < k) ∧ ∀ y ∈ P2, k ≤ y.natAbs := by
  intro m
  induction m with
  | zero => intro P hP; rw [List.eq_nil_of_length_eq_zero (show P.length = 0 by omega)]; exact ⟨[], [], rfl, .inl rfl, fun y hy => by simp at hy⟩
  | succ m ih =>
    intro P hP
    rcases snoc_cases P with rfl | ⟨a, z, rfl⟩
    · exact ⟨[], [], rfl, .inl rfl, fun y hy => by simp at hy⟩
    · by_cases hz : z.natAbs < k
      · exact ⟨a ++ [z], [], by simp, .inr ⟨a, z, rfl, hz⟩, fun y hy => by simp at hy⟩
      · obtain ⟨T, P2, e, h1, h2⟩ := ih a (by simp at hP; omega)
        exact ⟨T, P2 ++ [z], by rw [e]; simp, h1, fun y hy => by
          rcases List.mem_append.1 hy with h | h
          · exact h2 y h
          · rw [List.mem_singleton.1 h]; omega⟩

/-! ### Cosets -/
section
variable {n k : Nat} {s : Int} {a b c : List Int}
/-- From a to b by letters of index k or more, those of index k with the sign s, at least one; by letters of greater index alone. -/
def Bey (n k : Nat) (s : Int) (a b : List Int) : Prop := ∃ u, SPos k s u ∧ LtW n u ∧ BE n (a ++ u) b
def Sam (n k : Nat) (a b : List Int) : Prop := ∃ u, SFree k u ∧ LtW n u ∧ BE n (a ++ u) b
theorem Mono.app {u v : List Int} (h : Mono k s u) (h' : Mono k s v) : Mono k s (u ++ v) := fun x hx => (List.mem_append.1 hx).elim (h x) (h' x)
theorem Mono.left {u v : List Int} (h : Mono k s (u ++ v)) : Mono k s u := fun x hx => h x (by simp [hx])
theorem Mono.right {u v : List Int} (h : Mono k s (u ++ v)) : Mono k s v := fun x hx => h x (by simp [hx])
theorem SFree.mono {u : List Int} (h : SFree k u) : Mono k s u := fun x hx => ⟨Nat.le_of_lt (h x hx), fun e => by have := h x hx; omega⟩
theorem SFree.app {u v : List Int} (h : SFree k u) (h' : SFree k v) : SFree k (u ++ v) := fun x hx => (List.mem_append.1 hx).elim (h x) (h' x)
theorem SFree.inv {u : List Int} (h : SFree k u) : SFree k (invB u) := fun x hx => by
  unfold invB at hx
  rw [List.mem_reverse] at hx
  obtain ⟨y, hy, rfl⟩ := List.mem_map.1 hx
  rw [Int.natAbs_neg]; exact h y hy
theorem Bey.trans (h : Bey n k s a b) (h' : Bey n k s b c) : Bey n k s a c := by
  obtain ⟨u, ⟨hu, x, hx, hxk⟩, lu, eu⟩ := h
  obtain ⟨v, ⟨hv, _⟩, lv, ev⟩ := h'
  refine ⟨u ++ v, ⟨hu.app hv, x, by simp [hx], hxk⟩, lu.app lv, ?_⟩
  rw [← List.append_assoc]; exact (eu.post v).trans ev
theorem Sam.bey (h : Sam n k a b) (h' : Bey n k s b c) : Bey n k s a c := by
  obtain ⟨u, hu, lu, eu⟩ := h
  obtain ⟨v, ⟨hv, x, hx, hxk⟩, lv, ev⟩ := h'
  refine ⟨u ++ v, ⟨hu.mono.app hv, x, by simp [hx], hxk⟩, lu.app lv, ?_⟩
  rw [← List.append_assoc]; exact (eu.post v).trans ev
theorem Bey.sam (h : Bey n k s a b) (h' : Sam n k b c) : Bey n k s a c := by
  obtain ⟨u, ⟨hu, x, hx, hxk⟩, lu, eu⟩ := h
  obtain ⟨v, hv, lv, ev⟩ := h'
  refine ⟨u ++ v, ⟨hu.app hv.mono, x, by simp [hx], hxk⟩, lu.app lv, ?_⟩
  rw [← List.append_assoc]; exact (eu.post v).trans ev
theorem Sam.symm (h : Sam n k a b) : Sam n k b a := by
  obtain ⟨u, hu, lu, eu⟩ := h
  refine ⟨invB u, hu.inv, invB_lt lu, ?_⟩
  have h1 := eu.symm.post (invB u)
  have h2 := (BE.mulInv lu).pre a
  rw [List.append_nil] at h2
  rw [List.append_assoc] at h1
  exact h1.trans h2
theorem Sam.trans (h : Sam n k a b) (h' : Sam n k b c) : Sam n k a c := by
  obtain ⟨u, hu, lu, eu⟩ := h
  obtain ⟨v, hv, lv, ev⟩ := h'
  refine ⟨u ++ v, hu.app hv, lu.app lv, ?_⟩
  rw [← List.append_assoc]; exact (eu.post v).trans ev
theorem Sam.refl (a : List Int) : Sam n k a a := ⟨[], fun x hx => by simp at hx, fun x hx => by simp at hx, by rw [List.append_nil]; exact .refl _⟩
theorem Sam.of (h : BE n a b) : Sam n k a b := ⟨[], fun x hx => by simp at hx, fun x hx => by simp at hx, by rw [List.append_nil]; exact h⟩
theorem Bey.congr (h : Bey n k s a b) (e : BE n b c) : Bey n k s a c := by
  obtain ⟨u, hu, lu, eu⟩ := h
  exact ⟨u, hu, lu, eu.trans e⟩
theorem mono_inv {u : List Int} (h : Mono k (-1) u) : Mono k 1 (invB u) := fun x hx => by
  unfold invB at hx
  rw [List.mem_reverse] at hx
  obtain ⟨y, hy, rfl⟩ := List.mem_map.1 hx
  have := h y hy
  rw [Int.natAbs_neg]
  exact ⟨this.1, fun e => by have := this.2 e; omega⟩
theorem bey_irr (hk : 0 < k) (hs : s = 1 ∨ s = -1) (ha : LtW n a) (h : Bey n k s a b) (h' : Sam n k b a) : False := by
  have h1 := h.sam h'
  obtain ⟨u, ⟨hu, x, hx, hxk⟩, lu, eu⟩ := h1
  have e : BE n u [] := by
    have e2 : BE n (a ++ u) (a ++ []) := by rw [List.append_nil]; exact eu
    exact e2.cancelL ha
  rcases hs with rfl | rfl
  · exact spos_free hk ⟨hu, x, hx, hxk⟩ (v := []) (fun y hy => by simp at hy) e
  · refine spos_free hk (u := invB u) ⟨mono_inv hu, -x, ?_, by rw [Int.natAbs_neg]; exact hxk⟩ (v := []) (fun y hy => by simp at hy) (e.inv lu)
    unfold invB
    rw [List.mem_reverse]
    exact List.mem_map.2 ⟨x, hx, rfl⟩
/-- Two vertices of a path without handles are not the same. -/
theorem clean_apart {V : List Int} (hV : Clean V) (hl : LtW n V) {p u r : List Int} (e : V = p ++ u ++ r) (hu : u ≠ []) : ¬ BE n p (p ++ u) := fun h => by
  have h0 : BE n u [] := by
    have : BE n (p ++ []) (p ++ u) := by rw [List.append_nil]; exact h
    rw [e] at hl
    exact (this.cancelL hl.left.left).symm
  have hlu : LtW n u := by rw [e] at hl; exact hl.left.right
  -- the least index
  have hmin : ∃ k, (∃ y ∈ u, y.natAbs = k) ∧ ∀ y ∈ u, k ≤ y.natAbs := by
    have : ∀ (m : Nat), (∃ y ∈ u, y.natAbs ≤ m) → ∃ k, (∃ y ∈ u, y.natAbs = k) ∧ ∀ y ∈ u, k ≤ y.natAbs := by
      intro m
      induction m with
      | zero => rintro ⟨y, hy, h⟩; exact ⟨y.natAbs, ⟨y, hy, rfl⟩, fun z hz => by omega⟩
      | succ m ih =>
        rintro ⟨y, hy, h⟩
        by_cases hh : ∃ z ∈ u, z.natAbs ≤ m
        · exact ih hh
        · exact ⟨y.natAbs, ⟨y, hy, rfl⟩, fun z hz => Nat.le_of_not_lt fun hlt => hh ⟨z, hz, by omega⟩⟩
    obtain ⟨y, hy⟩ := List.exists_mem_of_ne_nil u hu
    exact this y.natAbs ⟨y, hy, Nat.le_refl _⟩
  obtain ⟨k, ⟨y, hy, hyk⟩, hge⟩ := hmin
  have hk : 0 < k := by have := (hlu y hy).1; omega
  rw [e] at hV
  obtain ⟨s, hs, hm⟩ := mono_of_clean hk u.length u p (Nat.le_refl _) hV.left hge
  exact bey_irr hk hs (a := p) (by rw [e] at hl; exact hl.left.left) ⟨u, ⟨hm, y, hy, hyk⟩, hlu, .refl _⟩ (Sam.of h.symm)
end
end Go.Proofs.Ytnmklkjlcpgjmaa

namespace Go.Proofs.Ytnmklkjlcpgjmaa
open Go.RowKit Go.Sl

section
variable {n : Nat}
theorem lw1 {x : Int} (h : LtB n x) : LtW n [x] := fun z hz => by rw [List.mem_singleton.1 hz]; exact h
theorem lwc {x : Int} {w : List Int} (h : LtB n x) (k : LtW n w) : LtW n (x :: w) := fun z hz => by
  rcases List.mem_cons.1 hz with rfl | hz
  · exact h
  · exact k z hz
/-- The end of a handle moves over a letter: an equality of braids. -/
theorem midB_eq {x y : Int} (hx : LtB n x) (hy : LtB n y) (h : x.natAbs < y.natAbs) : BE n [x, y] (midB x y ++ [x]) := by
  by_cases hk : y.natAbs = x.natAbs + 1
  · rw [midB_near hk]
    have c := fun {z : Int} (hz : LtB n z) (a b : List Int) => BE.ctx a b (BE.cancel hz)
    rcases Int.lt_or_lt_of_ne hx.1 with xn | xp
    · obtain ⟨i, hi, rfl⟩ := neg_of hx xn
      rw [sgn_neg xn]
      have e1 : -(-1 * ((((-ltr i).natAbs + 1 : Nat)) : Int)) = ltr (i + 1) := by rw [Int.natAbs_neg, ltr_abs]; unfold ltr; omega
      have e3 : -1 * ((((-ltr i).natAbs + 1 : Nat)) : Int) = -ltr (i + 1) := by rw [Int.natAbs_neg, ltr_abs]; unfold ltr; omega
      have e4 : (((-ltr i).natAbs : Nat) : Int) = ltr i := by rw [Int.natAbs_neg, ltr_abs]; unfold ltr; omega
      rcases Int.lt_or_lt_of_ne hy.1 with yn | yp
      · obtain ⟨j, hj, rfl⟩ := neg_of hy yn
        rw [Int.natAbs_neg, ltr_abs, Int.natAbs_neg, ltr_abs] at hk
        obtain rfl : j = i + 1 := by omega
        have br : BE n [-ltr i, -ltr (i + 1), -ltr i] [-ltr (i + 1), -ltr i, -ltr (i + 1)] :=
          (BE.braid (n := n) (i := i + 1) (by omega) hj).inv (lwc (lt_ltr hi) (lwc (lt_ltr hj) (lw1 (lt_ltr hi))))
        rw [sgn_neg yn, e1, e3, e4, show (-1 : Int) * ltr i = -ltr i by omega]
        have h1 := br.pre [ltr (i + 1)]
        have h2 := c (lt_ltr hj) [] [-ltr i, -ltr (i + 1)]
        simp only [List.cons_append, List.nil_append] at h1 h2 ⊢
        exact (h1.trans h2).symm
      · obtain ⟨j, hj, rfl⟩ := pos_of hy yp
        rw [ltr_abs, Int.natAbs_neg, ltr_abs] at hk
        obtain rfl : j = i + 1 := by omega
        have br := BE.braid (n := n) (i := i + 1) (by omega) hj
        rw [sgn_pos yp, e1, e3, e4, show (1 : Int) * ltr i = ltr i by omega]
        have hh : LtW n [ltr i, ltr (i + 1)] := lwc (lt_ltr hi) (lw1 (lt_ltr hj))
        refine BE.cancelR (a := [ltr i, ltr (i + 1)]) ?_ hh
        have h1 := (br.symm).pre [-ltr i]
        have h2 := c (lt_neg (lt_ltr hi)) [] [ltr (i + 1), ltr i]
        have h3 := c (lt_neg (lt_ltr hi)) [ltr (i + 1), ltr i, -ltr (i + 1)] [ltr (i + 1)]
        have h4 := c (lt_neg (lt_ltr hj)) [ltr (i + 1), ltr i] []
        simp only [List.cons_append, List.nil_append, Int.neg_neg] at h1 h2 h3 h4 ⊢
        exact (h1.trans h2).trans (h3.trans h4).symm
    · obtain ⟨i, hi, rfl⟩ := pos_of hx xp
      rw [sgn_pos xp]
      have e1 : -(1 * ((((ltr i).natAbs + 1 : Nat)) : Int)) = -ltr (i + 1) := by rw [ltr_abs]; unfold ltr; omega
      have e3 : 1 * ((((ltr i).natAbs + 1 : Nat)) : Int) = ltr (i + 1) := by rw [ltr_abs]; unfold ltr; omega
      have e4 : (((ltr i).natAbs : Nat) : Int) = ltr i := by rw [ltr_abs]; unfold ltr; omega
      rcases Int.lt_or_lt_of_ne hy.1 with yn | yp
      · obtain ⟨j, hj, rfl⟩ := neg_of hy yn
        rw [Int.natAbs_neg, ltr_abs, ltr_abs] at hk
        obtain rfl : j = i + 1 := by omega
        have br := BE.braid (n := n) (i := i + 1) (by omega) hj
        rw [sgn_neg yn, e1, e3, e4, show (-1 : Int) * ltr i = -ltr i by omega]
        have hh : LtW n [ltr i, ltr (i + 1)] := lwc (lt_ltr hi) (lw1 (lt_ltr hj))
        refine BE.cancelL (a := [ltr i, ltr (i + 1)]) ?_ hh
        have h1 := br.post [-ltr (i + 1)]
        have h2 := c (lt_ltr hj) [ltr (i + 1), ltr i] []
        have h3 := c (lt_ltr hj) [ltr i] [-ltr i, ltr (i + 1), ltr i]
        have h4 := c (lt_ltr hi) [] [ltr (i + 1), ltr i]
        simp only [List.cons_append, List.nil_append] at h1 h2 h3 h4 ⊢
        exact (h1.trans h2).trans (h3.trans h4).symm
      · obtain ⟨j, hj, rfl⟩ := pos_of hy yp
        rw [ltr_abs, ltr_abs] at hk
        obtain rfl : j = i + 1 := by omega
        have br := BE.braid (n := n) (i := i + 1) (by omega) hj
        rw [sgn_pos yp, e1, e3, e4, show (1 : Int) * ltr i = ltr i by omega]
        have h1 := br.pre [-ltr (i + 1)]
        have h2 := c (lt_neg (lt_ltr hj)) [] [ltr i, ltr (i + 1)]
        simp only [List.cons_append, List.nil_append, Int.neg_neg] at h1 h2 ⊢
        exact (h1.trans h2).symm
  · rw [midB_far hk]
    exact BE.far hx hy (.inl (by omega))
theorem midW_eq {x : Int} (hx : LtB n x) {M : List Int} (hM : LtW n M) (h : ∀ y ∈ M, x.natAbs < y.natAbs) : BE n (x :: M) (midW x M ++ [x]) := by
  induction M with
  | nil => exact .refl _
  | cons y M ih =>
    have h1 := (midB_eq hx (hM y (by simp)) (h y (by simp))).post M
    have h2 := (ih (fun z hz => hM z (by simp [hz])) fun z hz => h z (by simp [hz])).pre (midB x y)
    rw [midW_cons]
    simp only [List.append_assoc, List.cons_append, List.nil_append] at h1 h2 ⊢
    exact h1.trans h2
theorem handle_eq {x : Int} (hx : LtB n x) {M : List Int} (hM : LtW n M) (h : ∀ y ∈ M, x.natAbs < y.natAbs) : BE n (x :: M ++ [-x]) (midW x M) := by
  have h1 := (midW_eq hx hM h).post [-x]
  have h2 := cancelAt (v := midW x M) hx
  exact h1.trans h2
/-- The letters of the middle. -/
theorem midB_idx {x y : Int} (h : x.natAbs < y.natAbs) (hx : x ≠ 0) : ∀ z ∈ midB x y, x.natAbs ≤ z.natAbs ∧ (z.natAbs = x.natAbs → y.natAbs = x.natAbs + 1 ∧ z = y.sign * (x.natAbs : Int)) := by
  intro z hz
  by_cases hk : y.natAbs = x.natAbs + 1
  · rw [midB_near hk] at hz
    have hsx : x.sign = 1 ∨ x.sign = -1 := by
      rcases Int.lt_or_lt_of_ne hx with h | h
      · exact .inr (sgn_neg h)
      · exact .inl (sgn_pos h)
    simp only [List.mem_cons, List.not_mem_nil, or_false] at hz
    rcases hz with rfl | rfl | rfl
    · rcases hsx with h | h <;> rw [h] <;> exact ⟨by omega, fun e => by omega⟩
    · have hsy : y.sign = 1 ∨ y.sign = -1 := by
        rcases Int.lt_or_lt_of_ne (show y ≠ 0 by omega) with h | h
        · exact .inr (sgn_neg h)
        · exact .inl (sgn_pos h)
      exact ⟨by rcases hsy with h | h <;> rw [h] <;> omega, fun _ => ⟨hk, rfl⟩⟩
    · rcases hsx with h | h <;> rw [h] <;> exact ⟨by omega, fun e => by omega⟩
  · rw [midB_far hk, List.mem_singleton] at hz
    subst hz
    exact ⟨by omega, fun e => by omega⟩
theorem midW_idx {x : Int} (hx : x ≠ 0) {M : List Int} (h : ∀ y ∈ M, x.natAbs < y.natAbs) : ∀ z ∈ midW x M, x.natAbs ≤ z.natAbs ∧ (z.natAbs = x.natAbs → ∃ y ∈ M, y.natAbs = x.natAbs + 1 ∧ z = y.sign * (x.natAbs : Int)) := by
  intro z hz
  obtain ⟨y, hy, hz⟩ := List.mem_flatMap.1 hz
  obtain ⟨h1, h2⟩ := midB_idx (h y hy) hx z hz
  exact ⟨h1, fun e => ⟨y, hy, h2 e⟩⟩
theorem midB_len (x y : Int) : (midB x y).length ≤ 3 := by unfold midB; split <;> simp
theorem midW_len (x : Int) (M : List Int) : (midW x M).length ≤ 3 * M.length := by
  induction M with
  | nil => simp [midW]
  | cons y M ih =>
    have := midB_len x y
    rw [midW_cons, List.length_append, List.length_cons]; omega
/-- Where a letter of the handle's index stands in the new middle. -/
theorem midW_at {x : Int} (hx : x ≠ 0) (M : List Int) : (∀ y ∈ M, x.natAbs < y.natAbs) → ∀ a c b, midW x M = a ++ c :: b → c.natAbs = x.natAbs → ∃ M1 y M2, M = M1 ++ y :: M2 ∧ y.natAbs = x.natAbs + 1 ∧ a = midW x M1 ++ [-(x.sign * ((x.natAbs + 1 : Nat) : Int))] ∧ c = y.sign * (x.natAbs : Int) := by
  induction M with
  | nil => intro _ a c b e; simp [midW] at e
  | cons y M ih =>
    intro h a c b e hc
    rw [midW_cons] at e
    have hsx : x.sign = 1 ∨ x.sign = -1 := by
      rcases Int.lt_or_lt_of_ne hx with h | h
      · exact .inr (sgn_neg h)
      · exact .inl (sgn_pos h)
    have hlate : ∀ a2, a = midB x y ++ a2 → midW x M = a2 ++ c :: b → ∃ M1 y' M2, y :: M = M1 ++ y' :: M2 ∧ y'.natAbs = x.natAbs + 1 ∧ a = midW x M1 ++ [-(x.sign * ((x.natAbs + 1 : Nat) : Int))] ∧ c = y'.sign * (x.natAbs : Int) := by
      intro a2 ea e2
      obtain ⟨M1, y', M2, e3, h3, e4, h4⟩ := ih (fun z hz => h z (by simp [hz])) a2 c b e2 hc
      exact ⟨y :: M1, y', M2, by rw [e3]; rfl, h3, by rw [ea, e4, midW_cons]; simp, h4⟩
    by_cases hk : y.natAbs = x.natAbs + 1
    · rw [midB_near hk] at e hlate
      rcases a with _ | ⟨a0, _ | ⟨a1, _ | ⟨a2, a⟩⟩⟩
      · obtain ⟨rfl, _⟩ := List.cons.inj e
        exfalso; rcases hsx with h | h <;> rw [h] at hc <;> omega
      · simp only [List.cons_append, List.nil_append, List.cons.injEq] at e
        exact ⟨[], y, M, rfl, hk, by rw [← e.1]; rfl, e.2.1.symm⟩
      · simp only [List.cons_append, List.nil_append, List.cons.injEq] at e
        exfalso; rw [← e.2.2.1] at hc; rcases hsx with h | h <;> rw [h] at hc <;> omega
      · simp only [List.cons_append, List.nil_append, List.cons.injEq] at e
        exact hlate a (by rw [e.1, e.2.1, e.2.2.1]; rfl) e.2.2.2
    · rw [midB_far hk] at e hlate
      cases a with
      | nil =>
        simp only [List.cons_append, List.nil_append, List.cons.injEq] at e
        exfalso; have := h y (by simp); rw [e.1] at this; omega
      | cons a0 a =>
        simp only [List.cons_append, List.nil_append, List.cons.injEq] at e
        exact hlate a (by rw [e.1]; rfl) e.2
/-- From the handle's inner end to such a place: one letter of the other sign. -/
theorem crit_mid {x : Int} (hx : LtB n x) {P M : List Int} (hM : LtW n M) (h : ∀ y ∈ M, x.natAbs < y.natAbs) {a c b : _} (e : midW x M = a ++ c :: b) (hc : c.natAbs = x.natAbs) : Bey n x.natAbs (-x.sign) (P ++ [x]) (P ++ a ++ [c]) := by
  obtain ⟨M1, y, M2, rfl, hy, rfl, rfl⟩ := midW_at hx.1 M h a c b e hc
  have hM1 : LtW n (M1 ++ [y]) := fun z hz => hM z (by simp at hz ⊢; rcases hz with h | h; exact .inl h; exact .inr (.inl h))
  have hi1 : ∀ z ∈ M1 ++ [y], x.natAbs < z.natAbs := fun z hz => h z (by simp at hz ⊢; rcases hz with h | h; exact .inl h; exact .inr (.inl h))
  have hyn := (hM y (by simp)).2
  obtain ⟨f, hf⟩ : ∃ f, f = x.sign * ((x.natAbs + 1 : Nat) : Int) := ⟨_, rfl⟩
  have hfa : f.natAbs = x.natAbs + 1 := by
    rcases Int.lt_or_lt_of_ne hx.1 with h | h
    · rw [hf, sgn_neg h]; omega
    · rw [hf, sgn_pos h]; omega
  have hfl : LtB n f := ⟨by omega, by omega⟩
  have hsx : 0 < -x.sign * -x := by
    rcases Int.lt_or_lt_of_ne hx.1 with h | h
    · rw [sgn_neg h]; omega
    · rw [sgn_pos h]; omega
  refine ⟨(M1 ++ [y]) ++ [-x, -f], ⟨?_, -x, by simp, by simp⟩, hM1.app (lwc (lt_neg hx) (lw1 (lt_neg hfl))), ?_⟩
  · refine Mono.app (SFree.mono hi1) fun z hz => ?_
    simp only [List.mem_cons, List.not_mem_nil, or_false] at hz
    rcases hz with rfl | rfl
    · exact ⟨by simp, fun _ => hsx⟩
    · exact ⟨by rw [Int.natAbs_neg]; omega, fun e => by rw [Int.natAbs_neg] at e; omega⟩
  · have h1 := (midW_eq hx hM1 hi1).pre P
    rw [midW_append, midW_cons, midB_near hy, ← hf] at h1
    have h2 := h1.post [-x, -f]
    have h3 := BE.ctx (P ++ midW x M1 ++ [-f, y.sign * (x.natAbs : Int), f]) [-f] (BE.cancel hx)
    have h4 := cancelAt (v := P ++ midW x M1 ++ [-f, y.sign * (x.natAbs : Int)]) hfl
    rw [← hf]
    simp only [midW, List.flatMap_nil, List.append_assoc, List.cons_append, List.nil_append, List.append_nil] at h2 h3 h4 ⊢
    exact h2.trans (h3.trans h4)
/-- .. and to the letters of this index before the handle. -/
theorem crit_back {x : Int} (hx : LtB n x) {T a b : List Int} {c : Int} (hb : Mono x.natAbs x.sign b) (lb : LtW n b) : Bey n x.natAbs (-x.sign) (T ++ a ++ c :: b ++ [x]) (T ++ a ++ [c]) := by
  have hsx : 0 < -x.sign * -x := by
    rcases Int.lt_or_lt_of_ne hx.1 with h | h
    · rw [sgn_neg h]; omega
    · rw [sgn_pos h]; omega
  refine ⟨[-x] ++ invB b, ⟨Mono.app (fun z hz => ?_) (fun z hz => ?_), -x, by simp, by simp⟩, (lw1 (lt_neg hx)).app (invB_lt lb), ?_⟩
  · rw [List.mem_singleton.1 hz]
    exact ⟨by simp, fun _ => hsx⟩
  · unfold invB at hz
    rw [List.mem_reverse] at hz
    obtain ⟨y, hy, rfl⟩ := List.mem_map.1 hz
    have := hb y hy
    rw [Int.natAbs_neg]
    exact ⟨this.1, fun e => by rw [Int.neg_mul_neg]; exact this.2 e⟩
  · have h1 := BE.ctx (T ++ a ++ c :: b) (invB b) (BE.cancel hx)
    have h2 := (BE.mulInv lb).pre (T ++ a ++ [c])
    simp only [List.append_assoc, List.cons_append, List.nil_append, List.append_nil] at h1 h2 ⊢
    exact h1.trans h2

/-- For each place of a word. -/
def CritP (Q : List Int → Int → Prop) (U : List Int) : Prop := ∀ a c b, U = a ++ c :: b → Q a c
theorem app_cases {a b c d : List Int} (h : a ++ b = c ++ d) : (∃ u, a = c ++ u ∧ d = u ++ b) ∨ (∃ u, c = a ++ u ∧ b = u ++ d) := by
  rcases List.append_eq_append_iff.1 h with ⟨u, h1, h2⟩ | ⟨u, h1, h2⟩
  · exact .inr ⟨u, h1, h2⟩
  · exact .inl ⟨u, h1, h2⟩
theorem CritP.app {Q : List Int → Int → Prop} {X Y : List Int} (h : CritP Q X) (k : CritP (fun a c => Q (X ++ a) c) Y) : CritP Q (X ++ Y) := fun a c b e => by
  rcases app_cases e with ⟨u, e1, e2⟩ | ⟨u, e1, e2⟩
  · cases u with
    | nil =>
      simp only [List.append_nil, List.nil_append] at e1 e2
      have : Q (X ++ []) c := k [] c b (by rw [← e2]; rfl)
      rw [List.append_nil, e1] at this
      exact this
    | cons t u =>
      obtain ⟨rfl, _⟩ := List.cons.inj e2
      exact h a c u e1
  · have : Q (X ++ u) c := k u c b e2
    rwa [← e1] at this
theorem CritP.left {Q : List Int → Int → Prop} {X Y : List Int} (h : CritP Q (X ++ Y)) : CritP Q X := fun a c b e => h a c (b ++ Y) (by rw [e]; simp)
theorem CritP.right {Q : List Int → Int → Prop} {X Y : List Int} (h : CritP Q (X ++ Y)) : CritP (fun a c => Q (X ++ a) c) Y := fun a c b e => h (X ++ a) c b (by rw [e]; simp)
/-- What stays true of the part that ends with a pending letter: index k, the sign e before, the vertex q where the letter came from. -/
def Jst (n k : Nat) (e : Int) (q Y : List Int) : Prop := ∃ T U1 U2, Y = T ++ (U1 ++ U2) ∧ Clean T ∧ (T = [] ∨ ∃ T' c, T = T' ++ [c] ∧ c.natAbs < k) ∧ Mono k e U1 ∧ Mono k (-e) U2 ∧ CritP (fun a c => c.natAbs = k → Bey n k (-e) q (T ++ a ++ [c])) U1
/-- All near letters have one sign. -/
def OneSign (x : Int) (M : List Int) : Prop := (∀ y ∈ M, y.natAbs = x.natAbs + 1 → y.sign = x.sign) ∨ (∀ y ∈ M, y.natAbs = x.natAbs + 1 → y.sign = -x.sign)
theorem midW_mono {x : Int} (hx : x ≠ 0) {M : List Int} (h : ∀ y ∈ M, x.natAbs < y.natAbs) {s : Int} (hs : ∀ y ∈ M, y.natAbs = x.natAbs + 1 → y.sign = s) (h1 : s = 1 ∨ s = -1) : Mono x.natAbs s (midW x M) := fun z hz => by
  obtain ⟨a, b⟩ := midW_idx hx h z hz
  refine ⟨a, fun e => ?_⟩
  obtain ⟨y, hy, hyk, rfl⟩ := b e
  rw [hs y hy hyk]
  rcases h1 with rfl | rfl <;> omega
end
end Go.Proofs.Ytnmklkjlcpgjmaa

namespace Go.Proofs.Ytnmklkjlcpgjmaa
open Go.RowKit Go.Sl

section
variable {n : Nat}
theorem mono_sign {s x : Int} (h : 0 < s * x) (hs : s = 1 ∨ s = -1) : x.sign = s := by
  rcases hs with rfl | rfl
  · exact sgn_pos (by omega)
  · exact sgn_neg (by omega)
/-- A handle within: where its ends stand. -/
theorem jst_place {k : Nat} {e : Int} {p M s : List Int} {x : Int} (hM : ∀ y ∈ M, x.natAbs < y.natAbs) {T U1 U2 : List Int} (hY : p ++ (x :: M ++ (-x) :: s) = T ++ (U1 ++ U2)) (hc : Clean T) (hT : T = [] ∨ ∃ T' c, T = T' ++ [c] ∧ c.natAbs < k) (h1 : Mono k e U1) (h2 : Mono k (-e) U2) : ∃ p2, p = T ++ p2 ∧ U1 ++ U2 = p2 ++ (x :: M ++ (-x) :: s) := by
  have hU : ∀ y ∈ U1 ++ U2, k ≤ y.natAbs := fun y hy => by
    rcases List.mem_append.1 hy with h | h
    · exact (h1 y h).1
    · exact (h2 y h).1
  rcases app_cases hY with ⟨u, e1, e2⟩ | ⟨u, e1, e2⟩
  · exact ⟨u, e1, e2⟩
  · -- T = p ++ u
    rcases snoc_cases u with rfl | ⟨u', c, rfl⟩
    · exact ⟨[], by simpa using e1.symm, by simpa using e2.symm⟩
    · exfalso
      have hck : c.natAbs < k := by
        rcases hT with h | ⟨T', c', h, hc'⟩
        · rw [h] at e1; simp at e1
        · rw [h, ← List.append_assoc] at e1
          have := List.append_inj_right' e1 rfl
          simp at this; omega
      -- the closing letter is not in T
      have e3 : (x :: M) ++ (-x) :: s = (u' ++ [c]) ++ (U1 ++ U2) := by simpa using e2
      rcases app_cases e3 with ⟨v, e4, e5⟩ | ⟨v, e4, e5⟩
      · -- x :: M = u' ++ [c] ++ v : -x is in U
        have hx : k ≤ x.natAbs := by have := hU (-x) (by rw [e5]; simp); rwa [Int.natAbs_neg] at this
        have hcm : c ∈ x :: M := by rw [e4]; simp
        rcases List.mem_cons.1 hcm with h | h
        · rw [h] at hck; omega
        · have := hM c h; omega
      · -- u' ++ [c] = x :: M ++ v
        cases v with
        | nil =>
          rw [List.append_nil] at e4
          have hx : k ≤ x.natAbs := by
            have := hU (-x) (by rw [List.nil_append] at e5; rw [← e5]; simp)
            rwa [Int.natAbs_neg] at this
          have hcm : c ∈ x :: M := by rw [← e4]; simp
          rcases List.mem_cons.1 hcm with h | h
          · rw [h] at hck; omega
          · have := hM c h; omega
        | cons t v =>
          obtain ⟨rfl, e6⟩ := List.cons.inj e5
          refine hc (p ++ (x :: M)) (-x) v ?_ ⟨p, M, by rw [Int.neg_neg], fun y hy => by rw [Int.natAbs_neg]; exact hM y hy⟩
          rw [e1, e4]; simp
theorem Jst.handle {k : Nat} {e : Int} (he : e = 1 ∨ e = -1) {q p M s : List Int} {x : Int} (hx : LtB n x) (lM : LtW n M) (hM : ∀ y ∈ M, x.natAbs < y.natAbs) (ho : OneSign x M) (h : Jst n k e q (p ++ (x :: M ++ (-x) :: s))) : Jst n k e q (p ++ (midW x M ++ s)) := by
  obtain ⟨T, U1, U2, hY, hc, hT, h1, h2, hcr⟩ := h
  obtain ⟨p2, rfl, hU⟩ := jst_place hM hY hc hT h1 h2
  have hxk : k ≤ x.natAbs := by
    have : x ∈ U1 ++ U2 := by rw [hU]; simp
    rcases List.mem_append.1 this with h | h
    · exact (h1 x h).1
    · exact (h2 x h).1
  have hmi := midW_idx hx.1 hM
  have hH : BE n (x :: M ++ [-x]) (midW x M) := handle_eq hx lM hM
  have hU' : U1 ++ U2 = p2 ++ ((x :: M ++ [-x]) ++ s) := by rw [hU]; simp
  have notBoth : ∀ {s : Int} {U : List Int}, Mono k s U → x ∈ U → -x ∈ U → x.natAbs = k → False := fun {s U} hm a b e => by
    have q1 := (hm x a).2 e
    have q2 := (hm (-x) b).2 (by rw [Int.natAbs_neg]; exact e)
    rw [Int.mul_neg] at q2
    omega
  have inH : x ∈ x :: M ++ [-x] ∧ -x ∈ x :: M ++ [-x] := ⟨by simp, by simp⟩
  rcases Nat.lt_or_ge k x.natAbs with hgt | hle
  · have fm : SFree k (midW x M) := fun y hy => by have := (hmi y hy).1; omega
    rcases app_cases hU' with ⟨u, e1, e2⟩ | ⟨u, e1, e2⟩
    · rw [e1] at h1 hcr
      rcases app_cases e2.symm with ⟨v, e3, e4⟩ | ⟨v, e3, e4⟩
      · rw [e3] at h1 hcr
        refine ⟨T, p2 ++ (midW x M ++ v), U2, by rw [e4]; simp, hc, hT, h1.left.app (fm.mono.app h1.right.right), h2, CritP.app hcr.left (CritP.app (fun a c b eq hck => ?_) (fun a c b eq hck => ?_))⟩
        · have := fm c (by rw [eq]; simp)
          omega
        · have h3 := hcr.right.right a c b eq hck
          refine h3.congr ?_
          have h4 := BE.ctx (T ++ p2) (a ++ [c]) hH
          simpa using h4
      · refine ⟨T, p2, midW x M ++ s, by simp, hc, hT, h1.left, fm.mono.app ?_, hcr.left⟩
        rw [e4] at h2; exact h2.right
    · refine ⟨T, U1, u ++ (midW x M ++ s), by rw [e1]; simp, hc, hT, h1, ?_, hcr⟩
      rw [e2] at h2
      exact h2.left.app (fm.mono.app h2.right.right)
  · have hke : x.natAbs = k := by omega
    rcases app_cases hU' with ⟨u, e1, e2⟩ | ⟨u, e1, e2⟩
    · rw [e1] at h1 hcr
      rcases app_cases e2.symm with ⟨v, e3, e4⟩ | ⟨v, e3, e4⟩
      · exfalso
        rw [e3] at h1
        exact notBoth h1 (by simp) (by simp) hke
      · -- H = u ++ v
        cases u with
        | nil =>
          exfalso
          rw [List.nil_append] at e3
          rw [e4, ← e3] at h2
          exact notBoth h2 (by simp) (by simp) hke
        | cons t u =>
          have e5 := e3
          rw [List.cons_append, List.cons_append] at e5
          obtain ⟨rfl, -⟩ := List.cons.inj e5
          have hxe := (h1 x (by simp)).2 hke
          have hsx : x.sign = e := mono_sign hxe he
          have hB : Bey n k (-e) q (T ++ p2 ++ [x]) := by
            have := hcr.right [] x u rfl hke
            simpa using this
          have hs2 : Mono k (-e) s := by rw [e4] at h2; exact h2.right
          rcases ho with hd | hd
          · have hm := midW_mono hx.1 hM hd (by rw [hsx]; exact he)
            rw [hsx, hke] at hm
            refine ⟨T, p2 ++ midW x M, s, by simp, hc, hT, h1.left.app hm, hs2, CritP.app hcr.left fun a c b eq hck => ?_⟩
            have h3 := crit_mid hx (P := T ++ p2) lM hM eq (by rw [hke]; exact hck)
            rw [hke, hsx] at h3
            have := hB.trans h3
            simpa using this
          · have hm := midW_mono hx.1 hM hd (by rw [hsx]; rcases he with rfl | rfl; exact .inr rfl; exact .inl rfl)
            rw [hsx, hke] at hm
            exact ⟨T, p2, midW x M ++ s, by simp, hc, hT, h1.left, hm.app hs2, hcr.left⟩
    · exfalso
      rw [e2] at h2
      exact notBoth h2 (by simp) (by simp) hke
/-- If a handle of the same index is reduced there, its inner end is beyond. -/
theorem Jst.beyond {k : Nat} {e : Int} (he : e = 1 ∨ e = -1) {q p M s : List Int} {x : Int} (hM : ∀ y ∈ M, x.natAbs < y.natAbs) (hk : x.natAbs = k) (h : Jst n k e q (p ++ (x :: M ++ (-x) :: s))) : x.sign = e ∧ Bey n k (-e) q (p ++ [x]) := by
  obtain ⟨T, U1, U2, hY, hc, hT, h1, h2, hcr⟩ := h
  obtain ⟨p2, rfl, hU⟩ := jst_place hM hY hc hT h1 h2
  have hU' : U1 ++ U2 = p2 ++ ((x :: M ++ [-x]) ++ s) := by rw [hU]; simp
  have notBoth : ∀ {s : Int} {U : List Int}, Mono k s U → x ∈ U → -x ∈ U → False := fun {s U} hm a b => by
    have q1 := (hm x a).2 hk
    have q2 := (hm (-x) b).2 (by rw [Int.natAbs_neg]; exact hk)
    rw [Int.mul_neg] at q2
    omega
  rcases app_cases hU' with ⟨u, e1, e2⟩ | ⟨u, e1, e2⟩
  · rw [e1] at h1 hcr
    rcases app_cases e2.symm with ⟨v, e3, e4⟩ | ⟨v, e3, e4⟩
    · exfalso
      rw [e3] at h1
      exact notBoth h1 (by simp) (by simp)
    · cases u with
      | nil =>
        exfalso
        rw [List.nil_append] at e3
        rw [e4, ← e3] at h2
        exact notBoth h2 (by simp) (by simp)
      | cons t u =>
        have e5 := e3
        rw [List.cons_append, List.cons_append] at e5
        obtain ⟨rfl, -⟩ := List.cons.inj e5
        refine ⟨mono_sign ((h1 x (by simp)).2 hk) he, ?_⟩
        have := hcr.right [] x u rfl hk
        simpa using this
  · exfalso
    rw [e2] at h2
    exact notBoth h2 (by simp) (by simp)
/-- New letters. -/
theorem jst_new {q P M : List Int} {x : Int} (hx : LtB n x) (lP : LtW n P) (lM : LtW n M) (hM : ∀ y ∈ M, x.natAbs < y.natAbs) (ho : OneSign x M) (hV : Clean (P ++ x :: M)) (hq : Sam n x.natAbs q (P ++ [x])) {N N2 : List Int} {z : Int} (e : midW x M = N ++ z :: N2) : Jst n x.natAbs x.sign q (P ++ (N ++ [z])) := by
  have hx0 : 0 < x.natAbs := by have := hx.1; omega
  have hsx : x.sign = 1 ∨ x.sign = -1 := by
    rcases Int.lt_or_lt_of_ne hx.1 with h | h
    · exact .inr (sgn_neg h)
    · exact .inl (sgn_pos h)
  obtain ⟨T, P2, rfl, hT, hP2⟩ := split_low (k := x.natAbs) P.length P (Nat.le_refl _)
  have lP2 := lP.right
  have hcl : Clean (T ++ (P2 ++ [x])) := by
    have : T ++ P2 ++ x :: M = (T ++ (P2 ++ [x])) ++ M := by simp
    rw [this] at hV
    exact hV.left
  obtain ⟨s, hs, hm⟩ := mono_of_clean hx0 _ (P2 ++ [x]) T (Nat.le_refl _) hcl (fun y hy => by
    rcases List.mem_append.1 hy with h | h
    · exact hP2 y h
    · rw [List.mem_singleton.1 h]; exact Nat.le_refl _)
  have hse : s = x.sign := (mono_sign ((hm x (by simp)).2 rfl) hs).symm
  rw [hse] at hm
  have hmP := hm.left
  have crP : CritP (fun a c => c.natAbs = x.natAbs → Bey n x.natAbs (-x.sign) q (T ++ a ++ [c])) P2 := fun a c b eq hck => by
    have hb : Mono x.natAbs x.sign b := by rw [eq] at hmP; exact fun y hy => hmP y (by simp [hy])
    have lb : LtW n b := by rw [eq] at lP2; exact fun y hy => lP2 y (by simp [hy])
    have h3 := crit_back hx (T := T) (a := a) (c := c) hb lb
    rw [eq] at hq
    simp only [List.append_assoc, List.cons_append] at h3 hq ⊢
    exact hq.bey h3
  have hN : ∀ y ∈ N ++ [z], y ∈ midW x M := fun y hy => by
    rw [e]; simp at hy ⊢
    rcases hy with h | h
    · exact .inl h
    · exact .inr (.inl h)
  rcases ho with hd | hd
  · have hmm := midW_mono hx.1 hM hd hsx
    refine ⟨T, P2 ++ (N ++ [z]), [], by simp, hcl.left, hT, hmP.app (fun y hy => hmm y (hN y hy)), fun y hy => by simp at hy, CritP.app crP fun a c b eq hck => ?_⟩
    have e2 : midW x M = a ++ c :: (b ++ N2) := by
      have : midW x M = (N ++ [z]) ++ N2 := by rw [e]; simp
      rw [this, eq]; simp
    have h3 := crit_mid hx (P := T ++ P2) lM hM e2 hck
    have := hq.bey h3
    simpa using this
  · have hmm := midW_mono hx.1 hM hd (by rcases hsx with h | h <;> rw [h]; exact .inr rfl; exact .inl rfl)
    exact ⟨T, P2, N ++ [z], by simp, hcl.left, hT, hmP, fun y hy => hmm y (hN y hy), crP⟩
end
end Go.Proofs.Ytnmklkjlcpgjmaa

namespace Go.Proofs.Ytnmklkjlcpgjmaa
open Go.RowKit Go.Sl

abbrev Lab := Nat × Int × List Int
abbrev LL := Int × Option Lab
def fsts (R : List LL) : List Int := R.map Prod.fst
theorem fsts_append (a b : List LL) : fsts (a ++ b) = fsts a ++ fsts b := by simp [fsts]
theorem fsts_cons (y : LL) (b : List LL) : fsts (y :: b) = y.1 :: fsts b := rfl
def isLab (k : Nat) (q : List Int) (y : LL) : Bool := match y.2 with
  | some (k', _, q') => decide (k' = k ∧ q' = q)
  | none => false
theorem isLab_iff {k : Nat} {q : List Int} {y : LL} : isLab k q y = true ↔ ∃ e, y.2 = some (k, e, q) := by
  unfold isLab
  rcases y with ⟨z, _ | ⟨k', e, q'⟩⟩
  · simp
  · simp only [decide_eq_true_eq, Option.some.injEq, Prod.mk.injEq]
    exact ⟨fun ⟨h1, h2⟩ => ⟨e, h1, rfl, h2⟩, fun ⟨_, h1, _, h2⟩ => ⟨h1, h2⟩⟩
/-- The vertices are among X. -/
def Cover (n : Nat) (A B : List Int) (X : List (List Int)) : Prop := (∀ x ∈ X, LtW n x) ∧ ∀ v, LtW n v → InB n A B v → ∃ x ∈ X, BE n v x
open Classical in
noncomputable def repX (n : Nat) (X : List (List Int)) (v : List Int) : List Int := if h : ∃ x ∈ X, BE n v x then h.choose else []
section
variable {n l : Nat} {A B : List Int} {X : List (List Int)}
theorem Cover.rep (h : Cover n A B X) {v : List Int} (hv : LtW n v) (hi : InB n A B v) : repX n X v ∈ X ∧ BE n v (repX n X v) := by
  have hex := h.2 v hv hi
  unfold repX
  rw [dif_pos hex]
  exact hex.choose_spec
structure Mach (n l : Nat) (A B : List Int) (X : List (List Int)) (V : List Int) (R : List LL) : Prop where
  lt : LtW n (V ++ fsts R)
  dr : DrF n A B [] (V ++ fsts R)
  cl : Clean V
  js : ∀ R1 z k e q R2, R = R1 ++ (z, some (k, e, q)) :: R2 → ((e = 1 ∨ e = -1) ∧ q ∈ X ∧ 0 < k ∧ k + 1 < n) ∧ Jst n k e q (V ++ (fsts R1 ++ [z]))
  ct : ∀ k q, R.countP (isLab k q) ≤ 3
  nn : R.countP (fun y => y.2.isNone) ≤ l

theorem nodup_lenW : ∀ (Y J : List (List Int)), Y.Nodup → (∀ x ∈ Y, x ∈ J) → Y.length ≤ J.length := by
  intro Y
  induction Y with
  | nil => intro J _ _; exact Nat.zero_le _
  | cons x Y ih =>
    intro J hn hs
    have hx := hs x (by simp)
    have h := ih (J.erase x) (List.nodup_cons.1 hn).2 (fun y hy => (List.mem_erase_of_ne (fun (e : y = x) => (List.nodup_cons.1 hn).1 (by rw [← e]; exact hy))).2 (hs y (List.mem_cons_of_mem _ hy)))
    rw [List.length_erase_of_mem hx] at h
    have := List.length_pos_of_mem hx
    rw [List.length_cons]; omega
/-- A path without handles is not longer than there are vertices. -/
theorem clean_len (hX : Cover n A B X) {V : List Int} (hV : Clean V) (lV : LtW n V) (dV : DrF n A B [] V) : V.length ≤ X.length := by
  have := nodup_lenW ((List.range V.length).map fun i => repX n X (V.take (i + 1))) X ?_ ?_
  · simpa using this
  · refine List.pairwise_map.2 (List.pairwise_iff_forall_sublist.2 fun {i j} hs e => ?_)
    have hij : i < j := by
      have h1 := List.pairwise_iff_forall_sublist.1 (List.pairwise_lt_range (n := V.length)) hs
      exact h1
    have hj : j < V.length := List.mem_range.1 (hs.subset (by simp))
    have tk : ∀ i, LtW n (V.take i) ∧ InB n A B (V.take i) := fun i => ⟨fun z hz => lV z (List.mem_of_mem_take hz), by simpa using dV (V.take i) (V.drop i) (List.take_append_drop i V).symm⟩
    have r1 := (hX.rep (tk (i + 1)).1 (tk (i + 1)).2).2
    have r2 := (hX.rep (tk (j + 1)).1 (tk (j + 1)).2).2
    rw [e] at r1
    have hb := r1.trans r2.symm
    have e2 : V.take (j + 1) = V.take (i + 1) ++ (V.take (j + 1)).drop (i + 1) := by
      have := (List.take_append_drop (i + 1) (V.take (j + 1))).symm
      rwa [List.take_take, Nat.min_eq_left (by omega)] at this
    rw [e2] at hb
    refine clean_apart hV lV (p := V.take (i + 1)) (u := (V.take (j + 1)).drop (i + 1)) (r := V.drop (j + 1)) ?_ ?_ hb
    · rw [← e2, List.take_append_drop]
    · intro h0
      have := congrArg List.length h0
      simp at this; omega
  · intro x hx
    obtain ⟨i, hi, rfl⟩ := List.mem_map.1 hx
    exact (hX.rep (fun z hz => lV z (List.mem_of_mem_take hz)) (by simpa using dV (V.take (i + 1)) (V.drop (i + 1)) (List.take_append_drop _ V).symm)).1
/-- How many labelled letters. -/
theorem lab_count {R : List LL} {P : List (Nat × List Int)} (h : ∀ y ∈ R, y.2.isSome → ∃ p ∈ P, isLab p.1 p.2 y = true) : R.countP (fun y => y.2.isSome) ≤ (P.map fun p => R.countP (isLab p.1 p.2)).sum := by
  induction R with
  | nil => simp
  | cons y R ih =>
    have h1 := ih fun z hz => h z (by simp [hz])
    have e : (P.map fun p => (y :: R).countP (isLab p.1 p.2)).sum = (P.map fun p => if isLab p.1 p.2 y = true then 1 else 0).sum + (P.map fun p => R.countP (isLab p.1 p.2)).sum := by
      clear h h1 ih
      induction P with
      | nil => rfl
      | cons p P ih2 =>
        have e1 : (y :: R).countP (isLab p.1 p.2) = R.countP (isLab p.1 p.2) + (if isLab p.1 p.2 y = true then 1 else 0) := List.countP_cons
        rw [List.map_cons, List.sum_cons, List.map_cons, List.sum_cons, List.map_cons, List.sum_cons, ih2, e1]
        generalize (if isLab p.1 p.2 y = true then 1 else 0) = a
        omega
    rw [e, List.countP_cons]
    split
    · rename_i hs
      obtain ⟨p, hp, hl⟩ := h y (by simp) hs
      have : 1 ≤ (P.map fun p => if isLab p.1 p.2 y = true then 1 else 0).sum := by
        clear h h1 ih e
        induction P with
        | nil => simp at hp
        | cons q P ih2 =>
          simp only [List.map_cons, List.sum_cons]
          rcases List.mem_cons.1 hp with rfl | hp
          · rw [if_pos hl]; omega
          · have := ih2 hp; omega
      omega
    · omega
theorem sum_le3 {P : List (Nat × List Int)} {f : Nat × List Int → Nat} (h : ∀ p, f p ≤ 3) : (P.map f).sum ≤ 3 * P.length := by
  induction P with
  | nil => simp
  | cons p P ih => have := h p; rw [List.map_cons, List.sum_cons, List.length_cons]; omega
/-- No word on the way is long. -/
theorem Mach.len (hX : Cover n A B X) {V : List Int} {R : List LL} (h : Mach n l A B X V R) : (V ++ fsts R).length ≤ X.length + (l + 3 * ((n - 2) * X.length)) := by
  have h1 := clean_len hX h.cl h.lt.left h.dr.left
  have h2 : R.countP (fun y => y.2.isSome) ≤ 3 * ((n - 2) * X.length) := by
    obtain ⟨P, hP⟩ : ∃ P : List (Nat × List Int), P = (List.range' 1 (n - 2)).flatMap fun k => X.map fun q => (k, q) := ⟨_, rfl⟩
    have h3 := lab_count (R := R) (P := P) fun y hy hs => by
      obtain ⟨R1, R2, e⟩ := List.append_of_mem hy
      rcases y with ⟨z, _ | ⟨k, e', q⟩⟩
      · simp at hs
      · obtain ⟨⟨_, hq, hk, hkn⟩, _⟩ := h.js R1 z k e' q R2 e
        refine ⟨(k, q), ?_, isLab_iff.2 ⟨e', rfl⟩⟩
        rw [hP]
        exact List.mem_flatMap.2 ⟨k, List.mem_range'_1.2 ⟨by omega, by omega⟩, List.mem_map.2 ⟨q, hq, rfl⟩⟩
    have h4 := sum_le3 (P := P) (f := fun p => R.countP (isLab p.1 p.2)) fun p => h.ct p.1 p.2
    have h5 : P.length = (n - 2) * X.length := by
      rw [hP]
      have : ∀ (L : List Nat), (L.flatMap fun k => X.map fun q => (k, q)).length = L.length * X.length := by
        intro L
        induction L with
        | nil => simp
        | cons a L ih => rw [List.flatMap_cons, List.length_append, ih, List.length_map, List.length_cons, Nat.succ_mul]; omega
      rw [this, List.length_range']
    rw [h5] at h4
    omega
  have h6 : R.length = R.countP (fun y => y.2.isNone) + R.countP (fun y => y.2.isSome) := by
    clear h h1 h2
    induction R with
    | nil => rfl
    | cons y R ih =>
      rw [List.length_cons, List.countP_cons, List.countP_cons, ih]
      rcases y with ⟨z, _ | L⟩ <;> simp <;> omega
  have h7 := h.nn
  rw [List.length_append, show (fsts R).length = R.length by simp [fsts]]
  omega

/-! ### The measure -/
open Classical in
noncomputable def beyN (n : Nat) (X : List (List Int)) (k : Nat) (e : Int) (q : List Int) : Nat := X.countP fun x => decide (Bey n k (-e) q x)
noncomputable def rkL (n : Nat) (X : List (List Int)) (y : LL) : Nat := (n - y.1.natAbs) * (X.length + 2) + (match y.2 with
  | some (k, e, q) => if k = y.1.natAbs then beyN n X k e q else X.length + 1
  | none => X.length + 1)
noncomputable def muL (n : Nat) (X : List (List Int)) (R : List LL) : Nat := (R.map fun y => (3 * X.length + 1) ^ rkL n X y).sum
theorem muL_append (a b : List LL) : muL n X (a ++ b) = muL n X a + muL n X b := by simp [muL]
theorem muL_cons (y : LL) (b : List LL) : muL n X (y :: b) = (3 * X.length + 1) ^ rkL n X y + muL n X b := rfl
theorem wt_pos (y : LL) : 0 < (3 * X.length + 1) ^ rkL n X y := Nat.pow_pos (by omega)
theorem beyN_le (k : Nat) (e : Int) (q : List Int) : beyN n X k e q ≤ X.length := List.countP_le_length
theorem rkL_le (y : LL) : rkL n X y ≤ (n - y.1.natAbs) * (X.length + 2) + (X.length + 1) := by
  unfold rkL
  rcases y with ⟨z, _ | ⟨k, e, q⟩⟩
  · exact Nat.le_refl _
  · have h1 := beyN_le (n := n) (X := X) k e q
    have h2 : (if k = z.natAbs then beyN n X k e q else X.length + 1) ≤ X.length + 1 := by
      by_cases hk : k = z.natAbs
      · rw [if_pos hk]; omega
      · rw [if_neg hk]; exact Nat.le_refl _
    exact Nat.add_le_add_left h2 _
theorem muL_small {L : List LL} {r : Nat} (h : ∀ y ∈ L, rkL n X y < r) (hl : L.length ≤ 3 * X.length) (hr : 0 < r) : muL n X L < (3 * X.length + 1) ^ r := by
  obtain ⟨s, rfl⟩ : ∃ s, r = s + 1 := ⟨r - 1, by omega⟩
  have h1 : muL n X L ≤ L.length * (3 * X.length + 1) ^ s := by
    clear hl hr
    induction L with
    | nil => simp [muL]
    | cons y L ih =>
      have h2 := ih fun z hz => h z (by simp [hz])
      have h3 := Nat.pow_le_pow_right (n := 3 * X.length + 1) (by omega) (Nat.le_of_lt_succ (h y (by simp)))
      rw [muL_cons, List.length_cons, Nat.succ_mul L.length, Nat.add_comm]
      exact Nat.add_le_add h2 h3
  have h2 : L.length * (3 * X.length + 1) ^ s ≤ 3 * X.length * (3 * X.length + 1) ^ s := Nat.mul_le_mul_right _ hl
  have h3 : 0 < (3 * X.length + 1) ^ s := Nat.pow_pos (by omega)
  rw [Nat.pow_succ, Nat.mul_comm ((3 * X.length + 1) ^ s), Nat.add_mul, Nat.one_mul]
  omega
theorem countP_lt {α : Type} {p q : α → Bool} : ∀ (X : List α), (∀ x, p x = true → q x = true) → (∃ x ∈ X, q x = true ∧ p x = false) → X.countP p < X.countP q := by
  intro X
  induction X with
  | nil => rintro _ ⟨x, hx, _⟩; simp at hx
  | cons x X ih =>
    rintro h ⟨y, hy, h1, h2⟩
    have hle : X.countP p ≤ X.countP q := List.countP_mono_left fun z _ => h z
    rw [List.countP_cons, List.countP_cons]
    rcases List.mem_cons.1 hy with rfl | hy
    · rw [h1, h2]; simp; omega
    · have := ih h ⟨y, hy, h1, h2⟩
      cases hp : p x
      · cases hq : q x <;> simp <;> omega
      · rw [h x hp]; simp; omega
open Classical in
/-- Beyond the first vertex there are more than beyond the second. -/
theorem beyN_lt {k : Nat} (hk : 0 < k) {e : Int} (he : e = 1 ∨ e = -1) {q q' : List Int} (lq' : LtW n q') (hX : q' ∈ X) (h : Bey n k (-e) q q') : beyN n X k e q' < beyN n X k e q := by
  have he' : -e = 1 ∨ -e = -1 := by rcases he with rfl | rfl; exact .inr rfl; exact .inl rfl
  unfold beyN
  refine countP_lt X (fun x hx => ?_) ⟨q', hX, ?_, ?_⟩
  · rw [decide_eq_true_eq] at hx ⊢
    exact h.trans hx
  · rw [decide_eq_true_eq]; exact h
  · rw [decide_eq_false_iff_not]
    exact fun h2 => bey_irr hk he' lq' h2 (Sam.refl _)
end
end Go.Proofs.Ytnmklkjlcpgjmaa

namespace Go.Proofs.Ytnmklkjlcpgjmaa
open Go.RowKit Go.Sl

section
variable {n l : Nat} {A B : List Int} {X : List (List Int)}
noncomputable def newL (n : Nat) (X : List (List Int)) (x : Int) : List Int → List Int → List LL
  | _, [] => []
  | pre, y :: M => (midB x y).map (fun z => (z, some (x.natAbs, x.sign, repX n X (pre ++ [y])))) ++ newL n X x (pre ++ [y]) M
theorem newL_fst (x : Int) (M : List Int) : ∀ pre, fsts (newL n X x pre M) = midW x M := by
  induction M with
  | nil => exact fun _ => rfl
  | cons y M ih =>
    intro pre
    rw [newL, fsts_append, ih, midW_cons]
    congr 1
    simp [fsts, Function.comp_def]
theorem newL_mem {x : Int} (M : List Int) : ∀ pre, ∀ t ∈ newL n X x pre M, ∃ M1 y M2, M = M1 ++ y :: M2 ∧ t.1 ∈ midB x y ∧ t.2 = some (x.natAbs, x.sign, repX n X (pre ++ M1 ++ [y])) := by
  induction M with
  | nil => intro _ t ht; simp [newL] at ht
  | cons y M ih =>
    intro pre t ht
    rw [newL] at ht
    rcases List.mem_append.1 ht with h | h
    · obtain ⟨z, hz, rfl⟩ := List.mem_map.1 h
      exact ⟨[], y, M, rfl, hz, by simp⟩
    · obtain ⟨M1, y', M2, rfl, h1, h2⟩ := ih _ t h
      exact ⟨y :: M1, y', M2, rfl, h1, by rw [h2]; simp⟩
theorem newL_count {x : Int} (k : Nat) (q : List Int) (M : List Int) : ∀ pre, (∀ a u b, M = a ++ u ++ b → a ≠ [] → u ≠ [] → repX n X (pre ++ a) ≠ repX n X (pre ++ a ++ u)) → (newL n X x pre M).countP (isLab k q) ≤ 3 := by
  induction M with
  | nil => intro _ _; simp [newL]
  | cons y M ih =>
    intro pre hd
    rw [newL, List.countP_append]
    by_cases hl : x.natAbs = k ∧ repX n X (pre ++ [y]) = q
    · have h0 : (newL n X x (pre ++ [y]) M).countP (isLab k q) = 0 := by
        refine List.countP_eq_zero.2 fun t ht hs => ?_
        obtain ⟨M1, y', M2, e, _, h2⟩ := newL_mem M _ t ht
        obtain ⟨e', h3⟩ := isLab_iff.1 hs
        rw [h2] at h3
        simp only [Option.some.injEq, Prod.mk.injEq] at h3
        refine hd [y] (M1 ++ [y']) M2 (by rw [e]; simp) (by simp) (by simp) ?_
        rw [hl.2, ← h3.2.2]
        simp
      have h1 := List.countP_le_length (p := isLab k q) (l := (midB x y).map fun z => (z, some (x.natAbs, x.sign, repX n X (pre ++ [y]))))
      rw [List.length_map] at h1
      have := midB_len x y
      omega
    · have h0 : ((midB x y).map fun z => (z, some (x.natAbs, x.sign, repX n X (pre ++ [y])))).countP (isLab k q) = 0 := by
        refine List.countP_eq_zero.2 fun t ht hs => hl ?_
        obtain ⟨z, _, rfl⟩ := List.mem_map.1 ht
        obtain ⟨e', h3⟩ := isLab_iff.1 hs
        simp only [Option.some.injEq, Prod.mk.injEq] at h3
        exact ⟨h3.1, h3.2.2⟩
      have := ih (pre ++ [y]) fun a u b e ha hu => by
        have := hd (y :: a) u b (by rw [e]; rfl) (by simp) hu
        simpa using this
      omega
theorem app_casesL {a b c d : List LL} (h : a ++ b = c ++ d) : (∃ u, a = c ++ u ∧ d = u ++ b) ∨ (∃ u, c = a ++ u ∧ b = u ++ d) := by
  rcases List.append_eq_append_iff.1 h with ⟨u, h1, h2⟩ | ⟨u, h1, h2⟩
  · exact .inr ⟨u, h1, h2⟩
  · exact .inl ⟨u, h1, h2⟩
/-- All near letters of a handle have one sign. -/
theorem oneSign_of_clean {P M : List Int} {x : Int} (hx : x ≠ 0) (h : Clean (P ++ x :: M)) (hM : ∀ y ∈ M, x.natAbs < y.natAbs) : OneSign x M := by
  have e : P ++ x :: M = (P ++ [x]) ++ M := by simp
  rw [e] at h
  obtain ⟨s, hs, hm⟩ := mono_of_clean (k := x.natAbs + 1) (by omega) M.length M (P ++ [x]) (Nat.le_refl _) h (fun y hy => hM y hy)
  have hsg : ∀ y ∈ M, y.natAbs = x.natAbs + 1 → y.sign = s := fun y hy e => mono_sign ((hm y hy).2 e) hs
  by_cases h : s = x.sign
  · exact .inl fun y hy e => by rw [hsg y hy e, h]
  · have hsx : x.sign = 1 ∨ x.sign = -1 := by
      rcases Int.lt_or_lt_of_ne hx with h | h
      · exact .inr (sgn_neg h)
      · exact .inl (sgn_pos h)
    exact .inr fun y hy e => by rw [hsg y hy e]; rcases hs with rfl | rfl <;> rcases hsx with h2 | h2 <;> rw [h2] at h ⊢ <;> first | rfl | exact absurd rfl h
theorem near_of {x : Int} {M : List Int} (hM : ∀ y ∈ M, x.natAbs < y.natAbs) (h : OneSign x M) : (∀ y ∈ M, x.natAbs + 1 < y.natAbs ∨ (y.natAbs = x.natAbs + 1 ∧ y.sign = x.sign)) ∨ (∀ y ∈ M, x.natAbs + 1 < y.natAbs ∨ (y.natAbs = x.natAbs + 1 ∧ y.sign = -x.sign)) := by
  rcases h with h | h
  · refine .inl fun y hy => ?_
    have := hM y hy
    by_cases e : y.natAbs = x.natAbs + 1
    · exact .inr ⟨e, h y hy e⟩
    · exact .inl (by omega)
  · refine .inr fun y hy => ?_
    have := hM y hy
    by_cases e : y.natAbs = x.natAbs + 1
    · exact .inr ⟨e, h y hy e⟩
    · exact .inl (by omega)
/-- A handle within a drawn word. -/
theorem drawn_handle (hn : n ≤ 1000) (h2 : 2 ≤ n) (hA : LtW n A) {P M s : List Int} {x : Int} (hl : LtW n (P ++ (x :: M ++ (-x) :: s))) (hM : ∀ y ∈ M, x.natAbs < y.natAbs) (ho : OneSign x M) (h : DrF n A B [] (P ++ (x :: M ++ (-x) :: s))) :
    LtW n (P ++ (midW x M ++ s)) ∧ DrF n A B [] (P ++ (midW x M ++ s)) ∧ BE n (P ++ (midW x M ++ s)) (P ++ (x :: M ++ (-x) :: s)) := by
  have lP := hl.left
  have lx : LtB n x := hl x (by simp)
  have lM : LtW n M := fun z hz => hl z (by simp [hz])
  have ls : LtW n s := fun z hz => hl z (by simp [hz])
  have e : P ++ (x :: M ++ (-x) :: s) = P ++ ((x :: M ++ [-x]) ++ s) := by simp
  rw [e] at h ⊢
  have d1 := h.left
  have d2 := h.right
  rw [List.nil_append] at d2
  obtain ⟨d3, e3⟩ := handle_drawn hn h2 hA lx lP lM (near_of hM ho) d2.left
  have d4 := d2.right.congr e3.symm
  refine ⟨lP.app ((midW_lt lx lM).app ls), DrF.app d1 (by rw [List.nil_append]; exact DrF.app d3 d4), ?_⟩
  have := e3.post s
  simp only [List.append_assoc] at this ⊢
  exact this
/-- A letter that closes no handle. -/
theorem Mach.shift {V : List Int} {y : LL} {R : List LL} (h : Mach n l A B X V (y :: R)) (hz : ¬ closeAt V y.1) : Mach n l A B X (V ++ [y.1]) R := by
  have e : (V ++ [y.1]) ++ fsts R = V ++ fsts (y :: R) := by rw [fsts_cons]; simp
  refine ⟨by rw [e]; exact h.lt, by rw [e]; exact h.dr, clean_snoc h.cl hz, fun R1 z k ε q R2 er => ?_, fun k q => ?_, ?_⟩
  · obtain ⟨h1, h2⟩ := h.js (y :: R1) z k ε q R2 (by rw [er]; rfl)
    refine ⟨h1, ?_⟩
    rw [fsts_cons] at h2
    simpa using h2
  · have := h.ct k q
    rw [List.countP_cons] at this
    omega
  · have := h.nn
    rw [List.countP_cons] at this
    omega
theorem mu_shift (y : LL) (R : List LL) : muL n X R < muL n X (y :: R) := by
  rw [muL_cons]
  have := wt_pos (n := n) (X := X) y
  omega
/-- A pair that cancels, among the pending letters. -/
theorem Mach.del (hn : n ≤ 1000) (h2 : 2 ≤ n) (hA : LtW n A) {V : List Int} {y y' : LL} {R1 R2 : List LL} (h : Mach n l A B X V (R1 ++ y :: y' :: R2)) (hy : y'.1 = -y.1) : Mach n l A B X V (R1 ++ R2) := by
  obtain ⟨x, hx⟩ : ∃ x, y.1 = x := ⟨_, rfl⟩
  rw [hx] at hy
  have e1 : V ++ fsts (R1 ++ y :: y' :: R2) = (V ++ fsts R1) ++ (x :: [] ++ (-x) :: fsts R2) := by rw [fsts_append, fsts_cons, fsts_cons, hx, hy]; simp
  have e2 : V ++ fsts (R1 ++ R2) = (V ++ fsts R1) ++ (midW x [] ++ fsts R2) := by rw [fsts_append]; simp [midW]
  have hl := h.lt
  have hd := h.dr
  rw [e1] at hl hd
  have lx : LtB n x := hl x (by simp)
  have hM : ∀ z ∈ ([] : List Int), x.natAbs < z.natAbs := fun z hz => by simp at hz
  have ho : OneSign x [] := .inl fun z hz => by simp at hz
  obtain ⟨l1, d1, _⟩ := drawn_handle hn h2 hA hl hM ho hd
  rw [← e2] at l1 d1
  refine ⟨l1, d1, h.cl, fun S1 z k ε q S2 er => ?_, fun k q => ?_, ?_⟩
  · rcases app_casesL er with ⟨u, a1, a2⟩ | ⟨u, a1, a2⟩
    · -- R1 = S1 ++ u
      cases u with
      | nil =>
        rw [List.nil_append] at a2
        rw [List.append_nil] at a1
        obtain ⟨h1, h3⟩ := h.js (R1 ++ [y, y']) z k ε q S2 (by rw [← a2]; simp)
        refine ⟨h1, ?_⟩
        have e3 : V ++ (fsts (R1 ++ [y, y']) ++ [z]) = (V ++ fsts R1) ++ (x :: [] ++ (-x) :: [z]) := by rw [fsts_append, fsts_cons, fsts_cons, hx, hy]; simp [fsts]
        rw [e3] at h3
        have h4 := h3.handle h1.1 lx (fun w hw => by simp at hw) hM ho
        rw [← a1]
        simpa [midW] using h4
      | cons t u =>
        obtain ⟨rfl, a3⟩ := List.cons.inj a2
        exact h.js S1 z k ε q (u ++ y :: y' :: R2) (by rw [a1]; simp)
    · -- S1 = R1 ++ u
      obtain ⟨h1, h3⟩ := h.js (R1 ++ y :: y' :: u) z k ε q S2 (by rw [a2]; simp)
      refine ⟨h1, ?_⟩
      have e3 : V ++ (fsts (R1 ++ y :: y' :: u) ++ [z]) = (V ++ fsts R1) ++ (x :: [] ++ (-x) :: (fsts u ++ [z])) := by rw [fsts_append, fsts_cons, fsts_cons, hx, hy]; simp
      rw [e3] at h3
      have h4 := h3.handle h1.1 lx (fun w hw => by simp at hw) hM ho
      rw [a1, fsts_append]
      simpa [midW] using h4
  · have := h.ct k q
    rw [List.countP_append, List.countP_cons, List.countP_cons] at this
    rw [List.countP_append]; omega
  · have := h.nn
    rw [List.countP_append, List.countP_cons, List.countP_cons] at this
    rw [List.countP_append]; omega
theorem mu_del (y y' : LL) (R1 R2 : List LL) : muL n X (R1 ++ R2) < muL n X (R1 ++ y :: y' :: R2) := by
  rw [muL_append, muL_append, muL_cons, muL_cons]
  have := wt_pos (n := n) (X := X) y
  omega
/-- A handle is reduced. -/
theorem Mach.red2 (hn : n ≤ 1000) (h2 : 2 ≤ n) (hA : LtW n A) (hX : Cover n A B X) {P M : List Int} {x : Int} {y : LL} {R : List LL} (h : Mach n l A B X (P ++ x :: M) (y :: R)) (hM : ∀ y ∈ M, x.natAbs < y.natAbs) (hy : y.1 = -x) :
    ∃ L, fsts L = midW x M ∧ Mach n l A B X P (L ++ R) ∧ muL n X (L ++ R) < muL n X (y :: R) ∧ L = newL n X x (P ++ [x]) M := by
  have e1 : (P ++ x :: M) ++ fsts (y :: R) = P ++ (x :: M ++ (-x) :: fsts R) := by rw [fsts_cons, hy]; simp
  have hl := h.lt
  have hd := h.dr
  rw [e1] at hl hd
  have lP := hl.left
  have lx : LtB n x := hl x (by simp)
  have lM : LtW n M := fun z hz => hl z (by simp [hz])
  have hx0 : 0 < x.natAbs := by have := lx.1; omega
  have hsx : x.sign = 1 ∨ x.sign = -1 := by
    rcases Int.lt_or_lt_of_ne lx.1 with h | h
    · exact .inr (sgn_neg h)
    · exact .inl (sgn_pos h)
  have ho := oneSign_of_clean lx.1 h.cl hM
  obtain ⟨l1, d1, _⟩ := drawn_handle hn h2 hA hl hM ho hd
  have lV : LtW n (P ++ x :: M) := h.lt.left
  have dV : DrF n A B [] (P ++ x :: M) := h.dr.left
  -- the vertices of the middle
  have vert : ∀ a b, M = a ++ b → LtW n (P ++ [x] ++ a) ∧ InB n A B (P ++ [x] ++ a) := fun a b e => by
    have e3 : P ++ x :: M = (P ++ [x] ++ a) ++ b := by rw [e]; simp
    exact ⟨by rw [e3] at lV; exact lV.left, by simpa using dV _ b e3⟩
  have sam : ∀ a b, M = a ++ b → Sam n x.natAbs (repX n X (P ++ [x] ++ a)) (P ++ [x]) := fun a b e => by
    obtain ⟨v1, v2⟩ := vert a b e
    have h3 := (hX.rep v1 v2).2
    have h4 : Sam n x.natAbs (P ++ [x]) (repX n X (P ++ [x] ++ a)) := ⟨a, fun z hz => hM z (by rw [e]; simp [hz]), fun z hz => lM z (by rw [e]; simp [hz]), h3⟩
    exact h4.symm
  refine ⟨newL n X x (P ++ [x]) M, newL_fst x M _, ?_, ?_, rfl⟩
  · refine ⟨by rw [fsts_append, newL_fst]; exact l1, by rw [fsts_append, newL_fst]; exact d1, h.cl.left, fun S1 z k ε q S2 er => ?_, fun k q => ?_, ?_⟩
    · have old : ∀ u, S1 = newL n X x (P ++ [x]) M ++ u → R = u ++ (z, some (k, ε, q)) :: S2 → ((ε = 1 ∨ ε = -1) ∧ q ∈ X ∧ 0 < k ∧ k + 1 < n) ∧ Jst n k ε q (P ++ (fsts S1 ++ [z])) := by
        intro u a1 a2
        obtain ⟨h1, h3⟩ := h.js (y :: u) z k ε q S2 (by rw [a2]; rfl)
        refine ⟨h1, ?_⟩
        have e3 : (P ++ x :: M) ++ (fsts (y :: u) ++ [z]) = P ++ (x :: M ++ (-x) :: (fsts u ++ [z])) := by rw [fsts_cons, hy]; simp
        rw [e3] at h3
        have h4 := h3.handle h1.1 lx lM hM ho
        rw [a1, fsts_append, newL_fst]
        simpa using h4
      rcases app_casesL er with ⟨u, a1, a2⟩ | ⟨u, a1, a2⟩
      · cases u with
        | nil =>
          rw [List.nil_append] at a2
          rw [List.append_nil] at a1
          exact old [] (by rw [a1]; simp) (by rw [← a2]; rfl)
        | cons t u =>
          obtain ⟨rfl, a3⟩ := List.cons.inj a2
          obtain ⟨M1, y', M2, e4, h5, h6⟩ := newL_mem (n := n) (X := X) M (P ++ [x]) (z, some (k, ε, q)) (by rw [a1]; simp)
          simp only [Option.some.injEq, Prod.mk.injEq] at h6
          obtain ⟨rfl, rfl, rfl⟩ := h6
          have e5 : M = (M1 ++ [y']) ++ M2 := by rw [e4]; simp
          obtain ⟨v1, v2⟩ := vert _ _ e5
          rw [← List.append_assoc] at v1 v2
          have hyn := (lM y' (by rw [e4]; simp)).2
          have hym := hM y' (by rw [e4]; simp)
          refine ⟨⟨hsx, (hX.rep v1 v2).1, hx0, by omega⟩, ?_⟩
          have hsam := sam _ _ e5
          rw [← List.append_assoc] at hsam
          refine jst_new lx lP lM hM ho h.cl hsam (N := fsts S1) (N2 := fsts u) ?_
          have := newL_fst (n := n) (X := X) x M (P ++ [x])
          rw [a1, fsts_append, fsts_cons] at this
          exact this.symm
      · exact old u a1 a2
    · rw [List.countP_append]
      have c1 := newL_count (n := n) (X := X) (x := x) k q M (P ++ [x]) fun a u b e ha hu => by
        intro he
        obtain ⟨v1, v2⟩ := vert a (u ++ b) (by rw [e]; simp)
        obtain ⟨w1, w2⟩ := vert (a ++ u) b (by rw [e])
        rw [← List.append_assoc] at w1 w2
        have r1 := (hX.rep v1 v2).2
        have r2 := (hX.rep w1 w2).2
        rw [he] at r1
        exact clean_apart h.cl lV (p := P ++ [x] ++ a) (u := u) (r := b) (by rw [e]; simp) hu (r1.trans r2.symm)
      have c2 := h.ct k q
      rw [List.countP_cons] at c2
      by_cases hz : (newL n X x (P ++ [x]) M).countP (isLab k q) = 0
      · omega
      · -- no older letter has this label
        have hR : R.countP (isLab k q) = 0 := by
          refine List.countP_eq_zero.2 fun t ht hs => ?_
          obtain ⟨e', h3⟩ := isLab_iff.1 hs
          obtain ⟨S1, S2, er⟩ := List.append_of_mem ht
          rcases t with ⟨z, lb⟩
          have h3 : lb = some (k, e', q) := h3
          subst h3
          obtain ⟨h1, h4⟩ := h.js (y :: S1) z k e' q S2 (by rw [er]; rfl)
          have e3 : (P ++ x :: M) ++ (fsts (y :: S1) ++ [z]) = P ++ (x :: M ++ (-x) :: (fsts S1 ++ [z])) := by rw [fsts_cons, hy]; simp
          rw [e3] at h4
          obtain ⟨t2, ht2, hs2⟩ := List.countP_pos_iff.1 (Nat.pos_of_ne_zero hz)
          obtain ⟨M1, y', M2, e4, _, h6⟩ := newL_mem M _ t2 ht2
          obtain ⟨e'', h7⟩ := isLab_iff.1 hs2
          rw [h6] at h7
          simp only [Option.some.injEq, Prod.mk.injEq] at h7
          obtain ⟨hk, _, hq⟩ := h7
          obtain ⟨_, hb⟩ := h4.beyond h1.1 hM hk
          have hsam := sam (M1 ++ [y']) M2 (by rw [e4]; simp)
          rw [← List.append_assoc, hq, hk] at hsam
          exact bey_irr h1.2.2.1 (by rcases h1.1 with rfl | rfl; exact .inr rfl; exact .inl rfl) (hX.1 q h1.2.1) hb hsam.symm
        omega
    · have c2 := h.nn
      rw [List.countP_cons] at c2
      rw [List.countP_append]
      have : (newL n X x (P ++ [x]) M).countP (fun y => y.2.isNone) = 0 := by
        refine List.countP_eq_zero.2 fun t ht hs => ?_
        obtain ⟨_, _, _, _, _, h6⟩ := newL_mem M _ t ht
        rw [h6] at hs
        simp at hs
      omega
  · rw [muL_append, muL_cons]
    have hlen : (newL n X x (P ++ [x]) M).length ≤ 3 * X.length := by
      have h3 : (newL n X x (P ++ [x]) M).length = (midW x M).length := by rw [← newL_fst (n := n) (X := X) x M (P ++ [x])]; simp [fsts]
      have h4 := midW_len x M
      have h5 := clean_len hX h.cl lV dV
      simp at h5
      omega
    have hyb : y.1.natAbs = x.natAbs := by rw [hy, Int.natAbs_neg]
    have hpos : 0 < rkL n X y := by
      unfold rkL
      rw [hyb]
      have h3 : 1 ≤ n - x.natAbs := by have := lx.2; omega
      have h4 := Nat.mul_le_mul_right (X.length + 2) h3
      omega
    have := muL_small (n := n) (X := X) (L := newL n X x (P ++ [x]) M) (r := rkL n X y) (fun t ht => ?_) hlen hpos
    · omega
    · obtain ⟨M1, y', M2, e4, h5, h6⟩ := newL_mem M _ t ht
      have h7 := midB_idx (hM y' (by rw [e4]; simp)) lx.1 t.1 h5
      have e5 : M = (M1 ++ [y']) ++ M2 := by rw [e4]; simp
      obtain ⟨v1, v2⟩ := vert _ _ e5
      rw [← List.append_assoc] at v1 v2
      have hsam := sam _ _ e5
      rw [← List.append_assoc] at hsam
      obtain ⟨q', hq'⟩ : ∃ q', repX n X (P ++ [x] ++ M1 ++ [y']) = q' := ⟨_, rfl⟩
      rw [hq'] at h6 hsam
      have hqX : q' ∈ X := by rw [← hq']; exact (hX.rep v1 v2).1
      rcases Nat.lt_or_ge x.natAbs t.1.natAbs with hgt | hle
      · -- greater index
        have r1 := rkL_le (n := n) (X := X) t
        have r2 : (n - x.natAbs) * (X.length + 2) ≤ rkL n X y := by unfold rkL; rw [hyb]; exact Nat.le_add_right _ _
        have hxn := lx.2
        have r3 : (n - t.1.natAbs + 1) * (X.length + 2) ≤ (n - x.natAbs) * (X.length + 2) := Nat.mul_le_mul_right _ (by omega)
        rw [Nat.succ_mul] at r3
        omega
      · have he : t.1.natAbs = x.natAbs := by omega
        have r1 : rkL n X t = (n - x.natAbs) * (X.length + 2) + beyN n X x.natAbs x.sign q' := by
          unfold rkL
          rw [h6, he]
          simp
        have r2 : beyN n X x.natAbs x.sign q' < (match y.2 with
            | some (k, e, q) => if k = y.1.natAbs then beyN n X k e q else X.length + 1
            | none => X.length + 1) := by
          have hle2 := beyN_le (n := n) (X := X) x.natAbs x.sign q'
          rcases y with ⟨z, _ | ⟨k, ε, q⟩⟩
          · show _ < X.length + 1
            omega
          · show _ < if k = z.natAbs then beyN n X k ε q else X.length + 1
            by_cases hk : k = z.natAbs
            · rw [if_pos hk]
              have hz : z = -x := hy
              have hk2 : x.natAbs = k := by rw [hk, hz, Int.natAbs_neg]
              obtain ⟨h1, h4⟩ := h.js [] z k ε q R rfl
              have e3 : (P ++ x :: M) ++ (fsts [] ++ [z]) = P ++ (x :: M ++ (-x) :: []) := by rw [hz]; simp [fsts]
              rw [e3] at h4
              obtain ⟨hs, hb⟩ := h4.beyond h1.1 hM hk2
              have hb2 : Bey n k (-ε) q q' := hb.sam (by rw [← hk2]; exact hsam.symm)
              rw [hk2, hs]
              exact beyN_lt h1.2.2.1 h1.1 (hX.1 q' hqX) hqX hb2
            · rw [if_neg hk]; omega
        rw [r1]
        have r4 : rkL n X y = (n - x.natAbs) * (X.length + 2) + (match y.2 with
            | some (k, e, q) => if k = y.1.natAbs then beyN n X k e q else X.length + 1
            | none => X.length + 1) := by
          rw [← hyb]
          unfold rkL
          rcases y with ⟨z, _ | ⟨k, ε, q⟩⟩ <;> rfl
        rw [r4]
        exact Nat.add_lt_add_left r2 _
theorem Mach.red (hn : n ≤ 1000) (h2 : 2 ≤ n) (hA : LtW n A) (hX : Cover n A B X) {P M : List Int} {x : Int} {y : LL} {R : List LL} (h : Mach n l A B X (P ++ x :: M) (y :: R)) (hM : ∀ y ∈ M, x.natAbs < y.natAbs) (hy : y.1 = -x) :
    ∃ L, fsts L = midW x M ∧ Mach n l A B X P (L ++ R) ∧ muL n X (L ++ R) < muL n X (y :: R) := by
  obtain ⟨L, a, b, c, _⟩ := h.red2 hn h2 hA hX hM hy
  exact ⟨L, a, b, c⟩
end
end Go.Proofs.Ytnmklkjlcpgjmaa

namespace Go.Proofs.Ytnmklkjlcpgjmaa
open Go.RowKit Go.Sl

section
variable {n l : Nat} {A B : List Int} {X : List (List Int)}
theorem fsts_split {R : List LL} {u s : List Int} (h : fsts R = u ++ s) : ∃ R1 R2, R = R1 ++ R2 ∧ fsts R1 = u ∧ fsts R2 = s := by
  unfold fsts at h ⊢
  obtain ⟨R1, R2, h1, h2, h3⟩ := List.map_eq_append_iff.1 h
  exact ⟨R1, R2, h1, h2, h3⟩
theorem fsts_cons_split {R : List LL} {x : Int} {s : List Int} (h : fsts R = x :: s) : ∃ y R2, R = y :: R2 ∧ y.1 = x ∧ fsts R2 = s := by
  cases R with
  | nil => simp [fsts] at h
  | cons y R =>
    rw [fsts_cons] at h
    obtain ⟨h1, h2⟩ := List.cons.inj h
    exact ⟨y, R, rfl, h1, h2⟩
/-- A word on the way: the measure is at most m. -/
def OnWay (n l : Nat) (A B : List Int) (X : List (List Int)) (w : List Int) (m : Nat) : Prop := ∃ V R, V ++ fsts R = w ∧ Mach n l A B X V R ∧ muL n X R ≤ m
theorem OnWay.len (hX : Cover n A B X) {w : List Int} {m : Nat} (h : OnWay n l A B X w m) : w.length ≤ X.length + (l + 3 * ((n - 2) * X.length)) := by
  obtain ⟨V, R, rfl, hm, _⟩ := h
  exact hm.len hX
theorem OnWay.lt {w : List Int} {m : Nat} (h : OnWay n l A B X w m) : LtW n w := by
  obtain ⟨V, R, rfl, hm, _⟩ := h
  exact hm.lt
/-- A pair that cancels. -/
theorem OnWay.del (hn : n ≤ 1000) (h2 : 2 ≤ n) (hA : LtW n A) (hX : Cover n A B X) {a b : List Int} {x : Int} {m : Nat} (h : OnWay n l A B X (a ++ x :: (-x) :: b) m) : OnWay n l A B X (a ++ b) m := by
  obtain ⟨V, R, e, hm, hmu⟩ := h
  rcases app_cases e with ⟨u, e1, e2⟩ | ⟨u, e1, e2⟩
  · -- V = a ++ u
    rcases u with _ | ⟨t, _ | ⟨t', u⟩⟩
    · rw [List.append_nil] at e1
      rw [List.nil_append] at e2
      obtain ⟨y, R2, rfl, hy, e3⟩ := fsts_cons_split e2.symm
      obtain ⟨y', R3, rfl, hy', e4⟩ := fsts_cons_split e3
      have h3 := Mach.del hn h2 hA (R1 := []) hm (by rw [hy', hy])
      have h4 := mu_del (n := n) (X := X) y y' [] R3
      exact ⟨V, R3, by rw [e1, e4], h3, by simp only [List.nil_append] at h4; omega⟩
    · rw [List.cons_append, List.nil_append] at e2
      obtain ⟨rfl, e3⟩ := List.cons.inj e2
      obtain ⟨y, R2, rfl, hy, e4⟩ := fsts_cons_split e3.symm
      rw [e1] at hm
      obtain ⟨L, hL, h3, h4⟩ := Mach.red hn h2 hA hX (M := []) hm (fun z hz => by simp at hz) hy
      have : L = [] := by
        cases L with
        | nil => rfl
        | cons _ _ => simp [fsts, midW] at hL
      subst this
      exact ⟨a, R2, by rw [e4], by simpa using h3, by simp only [List.nil_append] at h4; omega⟩
    · exfalso
      rw [List.cons_append, List.cons_append] at e2
      obtain ⟨rfl, e3⟩ := List.cons.inj e2
      obtain ⟨rfl, e4⟩ := List.cons.inj e3
      refine hm.cl (a ++ [x]) (-x) u (by rw [e1]; simp) ⟨a, [], by rw [Int.neg_neg], fun z hz => by simp at hz⟩
  · -- a = V ++ u
    obtain ⟨R1, R2, rfl, e3, e4⟩ := fsts_split e2
    obtain ⟨y, R3, rfl, hy, e5⟩ := fsts_cons_split e4
    obtain ⟨y', R4, rfl, hy', e6⟩ := fsts_cons_split e5
    have h3 := Mach.del hn h2 hA hm (by rw [hy', hy])
    have h4 := mu_del (n := n) (X := X) y y' R1 R4
    exact ⟨V, R1 ++ R4, by rw [fsts_append, e3, e6, e1]; simp, h3, by omega⟩
/-- The reduced word. -/
theorem OnWay.redL (hn : n ≤ 1000) (h2 : 2 ≤ n) (hA : LtW n A) (hX : Cover n A B X) {w : List Int} {m : Nat} (h : OnWay n l A B X w m) : OnWay n l A B X (redL w) m := by
  have key : ∀ (b s : List Int), OnWay n l A B X (s.reverse ++ b) m → OnWay n l A B X ((act s b).reverse) m := by
    intro b
    induction b with
    | nil => intro s h; simpa [act] using h
    | cons x b ih =>
      intro s h
      show OnWay n l A B X ((act (psh s x) b).reverse) m
      refine ih _ ?_
      cases s with
      | nil => simpa [psh] using h
      | cons y t =>
        have ep : psh (y :: t) x = if y = -x then t else x :: y :: t := rfl
        rw [ep]
        by_cases hy : y = -x
        · rw [if_pos hy]
          subst hy
          have e : (-x :: t).reverse ++ x :: b = t.reverse ++ (-x) :: (- -x) :: b := by simp
          rw [e] at h
          exact h.del hn h2 hA hX
        · rw [if_neg hy]
          simpa using h
  have := key w [] (by simpa using h)
  exact this
/-- A handle. -/
theorem OnWay.handle (hn : n ≤ 1000) (h2 : 2 ≤ n) (hA : LtW n A) (hX : Cover n A B X) {P M s : List Int} {x : Int} {m : Nat} (h : OnWay n l A B X (P ++ x :: M ++ (-x) :: s) m) (hc : Clean (P ++ x :: M)) (hM : ∀ y ∈ M, x.natAbs < y.natAbs) : 0 < m ∧ OnWay n l A B X (P ++ (midW x M ++ s)) (m - 1) := by
  obtain ⟨V, R, e, hm, hmu⟩ := h
  have cl : closeAt (P ++ x :: M) (-x) := ⟨P, M, by rw [Int.neg_neg], fun y hy => by rw [Int.natAbs_neg]; exact hM y hy⟩
  -- V is a part of P ++ x :: M
  have hpre : ∃ u, P ++ x :: M = V ++ u ∧ fsts R = u ++ (-x) :: s := by
    rcases app_cases e with ⟨u, e1, e2⟩ | ⟨u, e1, e2⟩
    · cases u with
      | nil => exact ⟨[], by rw [e1]; simp, by rw [List.nil_append] at e2 ⊢; exact e2.symm⟩
      | cons t u =>
        exfalso
        rw [List.cons_append] at e2
        obtain ⟨rfl, _⟩ := List.cons.inj e2
        exact hm.cl _ _ _ e1 cl
    · exact ⟨u, e1, e2⟩
  obtain ⟨u, e1, e2⟩ := hpre
  -- the letters ahead are passed
  have pass : ∀ (u V : List Int) (R : List LL), Mach n l A B X V R → P ++ x :: M = V ++ u → fsts R = u ++ (-x) :: s → ∃ R', Mach n l A B X (P ++ x :: M) R' ∧ fsts R' = (-x) :: s ∧ muL n X R' ≤ muL n X R := by
    intro u
    induction u with
    | nil =>
      intro V R hm e1 e2
      rw [List.append_nil] at e1
      exact ⟨R, by rw [e1]; exact hm, e2, Nat.le_refl _⟩
    | cons t u ih =>
      intro V R hm e1 e2
      obtain ⟨y, R2, rfl, hy, e3⟩ := fsts_cons_split e2
      have hno : ¬ closeAt V y.1 := by
        rw [hy]
        exact hc V t u e1
      have h3 := hm.shift hno
      rw [hy] at h3
      obtain ⟨R', h4, h5, h6⟩ := ih (V ++ [t]) R2 h3 (by rw [e1]; simp) e3
      have := mu_shift (n := n) (X := X) y R2
      exact ⟨R', h4, h5, by omega⟩
  obtain ⟨R', h3, h4, h5⟩ := pass u V R hm e1 e2
  obtain ⟨y, R2, rfl, hy, e3⟩ := fsts_cons_split h4
  obtain ⟨L, hL, h6, h7⟩ := Mach.red hn h2 hA hX h3 hM hy
  exact ⟨by omega, P, L ++ R2, by rw [fsts_append, hL, e3], h6, by omega⟩
/-- The start. -/
theorem OnWay.start {w : List Int} (hw : LtW n w) (hd : DrF n A B [] w) (hl : w.length ≤ l) : ∃ m, OnWay n l A B X w m := by
  obtain ⟨R, hR⟩ : ∃ R : List LL, R = w.map fun z => (z, none) := ⟨_, rfl⟩
  have hf : fsts R = w := by rw [hR]; simp [fsts, Function.comp_def]
  refine ⟨_, [], R, by rw [hf]; rfl, ⟨by rw [hf]; exact hw, by rw [hf]; exact hd, clean_nil, fun R1 z k e q R2 er => ?_, fun k q => ?_, ?_⟩, Nat.le_refl _⟩
  · have : (z, some (k, e, q)) ∈ R := by rw [er]; simp
    rw [hR] at this
    obtain ⟨t, _, ht⟩ := List.mem_map.1 this
    simp at ht
  · have : R.countP (isLab k q) = 0 := List.countP_eq_zero.2 fun t ht hs => by
      rw [hR] at ht
      obtain ⟨z, _, rfl⟩ := List.mem_map.1 ht
      simp [isLab] at hs
    omega
  · have := List.countP_le_length (p := fun y : LL => y.2.isNone) (l := R)
    rw [hR, List.length_map] at this
    rw [hR]; omega
/-- What has no handles has a sign. -/
theorem clean_sign {w : List Int} (hw : LtW n w) (hc : Clean w) (h0 : w ≠ []) : ∃ k s, 0 < k ∧ (s = 1 ∨ s = -1) ∧ SPos k s w := by
  have hmin : ∃ k, (∃ y ∈ w, y.natAbs = k) ∧ ∀ y ∈ w, k ≤ y.natAbs := by
    have : ∀ (m : Nat), (∃ y ∈ w, y.natAbs ≤ m) → ∃ k, (∃ y ∈ w, y.natAbs = k) ∧ ∀ y ∈ w, k ≤ y.natAbs := by
      intro m
      induction m with
      | zero => rintro ⟨y, hy, h⟩; exact ⟨y.natAbs, ⟨y, hy, rfl⟩, fun z hz => by omega⟩
      | succ m ih =>
        rintro ⟨y, hy, h⟩
        by_cases hh : ∃ z ∈ w, z.natAbs ≤ m
        · exact ih hh
        · exact ⟨y.natAbs, ⟨y, hy, rfl⟩, fun z hz => Nat.le_of_not_lt fun hlt => hh ⟨z, hz, by omega⟩⟩
    obtain ⟨y, hy⟩ := List.exists_mem_of_ne_nil w h0
    exact this y.natAbs ⟨y, hy, Nat.le_refl _⟩
  obtain ⟨k, ⟨y, hy, hyk⟩, hge⟩ := hmin
  have hk : 0 < k := by have := (hw y hy).1; omega
  obtain ⟨s, hs, hm⟩ := mono_of_clean hk w.length w [] (Nat.le_refl _) (by simpa using hc) hge
  exact ⟨k, s, hk, hs, hm, y, hy, hyk⟩
end
end Go.Proofs.Ytnmklkjlcpgjmaa

namespace Go.Proofs.Ytnmklkjlcpgjmaa
open Go.RowKit Go.Sl

section
variable {n r : Nat} {D : List Int}
/-- Y lies below all vertices of the path, shifted. -/
def Bel (n r : Nat) (D Y w : List Int) : Prop := ∀ p s, w = p ++ s → LeB n Y (p ++ powB (r : Int) D)
/-- Each later vertex lies below each earlier one, shifted. -/
def Rho (n r : Nat) (D w : List Int) : Prop := ∀ q s, w = q ++ s → Bel n r D q q
theorem k_up (hD : IsUp n D (hf n)) (x : List Int) : LeB n x (x ++ powB (r : Int) D) := LeB.add (powB_pos hD.posW (by omega))
theorem k_mono (hn : n ≤ 1000) (hD : IsUp n D (hf n)) {x y : List Int} (h : LeB n x y) : LeB n (x ++ powB (r : Int) D) (y ++ powB (r : Int) D) := by
  refine le_unshift hn hD (h.congr ?_ (.refl _))
  have := (powB_neg hD.lt (r : Int)).pre x
  rw [List.append_nil] at this
  rw [List.append_assoc]
  exact this.symm
theorem k_lcmR (hn : n ≤ 1000) (h2 : 2 ≤ n) (hD : IsUp n D (hf n)) {i j : Nat} (hi : i + 1 < n) (hj : j + 1 < n) {Y p : List Int} (hY : LtW n Y) (h : LeB n Y ((p ++ [-ltr i]) ++ powB (r : Int) D)) (k : LeB n Y ((p ++ [-ltr j]) ++ powB (r : Int) D)) : LeB n Y ((p ++ invB (lcmB i j)) ++ powB (r : Int) D) :=
  le_unshift hn hD (LeB.lcmR hn h2 hi hj (hY.app (powB_lt hD.lt _)) (le_shift hn hD h) (le_shift hn hD k))
theorem Bel.left {Y a b : List Int} (h : Bel n r D Y (a ++ b)) : Bel n r D Y a := fun p s e => h p (s ++ b) (by rw [e]; simp)
theorem Bel.congr {Y Z w : List Int} (h : Bel n r D Y w) (e : BE n Y Z) : Bel n r D Z w := fun p s e2 => (h p s e2).congr e (.refl _)
theorem Rho.left {a b : List Int} (h : Rho n r D (a ++ b)) : Rho n r D a := fun q s e => h q (s ++ b) (by rw [e]; simp)
theorem Rho.le {a b c : List Int} (h : Rho n r D (a ++ b ++ c)) : LeB n (a ++ b) (a ++ powB (r : Int) D) := h (a ++ b) c rfl a b rfl
/-- A word of negative letters. -/
def NegW (n : Nat) (w : List Int) : Prop := ∀ x ∈ w, x < 0 ∧ LtB n x
theorem NegW.lt {w : List Int} (h : NegW n w) : LtW n w := fun x hx => (h x hx).2
theorem NegW.inv {w : List Int} (h : NegW n w) : PosW n (invB w) := fun x hx => by
  unfold invB at hx
  rw [List.mem_reverse] at hx
  obtain ⟨y, hy, rfl⟩ := List.mem_map.1 hx
  have h1 := h y hy
  have h2 := h1.2.2
  omega
theorem NegW.left {a b : List Int} (h : NegW n (a ++ b)) : NegW n a := fun x hx => h x (by simp [hx])
theorem NegW.right {a b : List Int} (h : NegW n (a ++ b)) : NegW n b := fun x hx => h x (by simp [hx])
theorem NegW.le {w : List Int} (h : NegW n w) (v : List Int) : LeB n (v ++ w) v := ⟨invB w, h.inv, by
  have := (BE.mulInv h.lt).pre v
  rw [List.append_nil] at this
  rw [List.append_assoc]; exact this⟩
/-- An elementary move of two letters a to c, at v. -/
structure Mv (n r : Nat) (D v a c : List Int) : Prop where
  eq : BE n (v ++ c) (v ++ a)
  up : ∀ c1 c2, c = c1 ++ c2 → ∀ Z, LeB n v Z → LeB n (v ++ a) Z → LeB n (v ++ c1) Z
  dn : ∀ c1 c2, c = c1 ++ c2 → ∀ Y, LtW n Y → LeB n Y (v ++ powB (r : Int) D) → LeB n Y (v ++ a ++ powB (r : Int) D) → LeB n Y (v ++ c1 ++ powB (r : Int) D)
  inn : LeB n (v ++ a) (v ++ powB (r : Int) D) → ∀ c1 c2 c3, c = c1 ++ (c2 ++ c3) → LeB n (v ++ (c1 ++ c2)) (v ++ c1 ++ powB (r : Int) D)
theorem Mv.bel {v a c : List Int} (m : Mv n r D v a c) {Y s : List Int} (lY : LtW n Y) (h : Bel n r D Y (v ++ (a ++ s))) : Bel n r D Y (v ++ (c ++ s)) := fun p t e => by
  rcases app_cases e with ⟨u, e1, e2⟩ | ⟨u, e1, e2⟩
  · exact h p (u ++ (a ++ s)) (by rw [e1]; simp)
  · rcases app_cases e2 with ⟨x, e3, e4⟩ | ⟨x, e3, e4⟩
    · rw [e1]
      exact m.dn u x e3 Y lY (h v _ rfl) (h (v ++ a) s (by simp))
    · have h1 := h (v ++ a ++ x) t (by rw [e4]; simp)
      refine h1.congr (.refl _) ?_
      rw [e1, e3]
      have := m.eq.symm.post (x ++ powB (r : Int) D)
      simpa using this
theorem Mv.rho {v a c : List Int} (m : Mv n r D v a c) {s : List Int} (l : LtW n (v ++ (a ++ s))) (h : Rho n r D (v ++ (a ++ s))) : Rho n r D (v ++ (c ++ s)) := fun q t e => by
  rcases app_cases e with ⟨u, e1, e2⟩ | ⟨u, e1, e2⟩
  · exact h q (u ++ (a ++ s)) (by rw [e1]; simp)
  · rcases app_cases e2 with ⟨x, e3, e4⟩ | ⟨x, e3, e4⟩
    · rw [e1]
      intro p p2 e5
      have hv := h v (a ++ s) rfl
      have hva := h (v ++ a) s (by simp)
      rcases app_cases e5 with ⟨y, e6, e7⟩ | ⟨y, e6, e7⟩
      · exact m.up u x e3 _ (hv p y e6) (hva p (y ++ a) (by rw [e6]; simp))
      · rw [e6, e7]
        exact m.inn (hva v a rfl) y p2 x (by rw [e3, e7]; simp)
    · have h1 : Bel n r D (v ++ a ++ x) (v ++ (a ++ x)) := h (v ++ a ++ x) t (by rw [e4]; simp) |>.congr (.refl _) |> fun h => by simpa using h
      have lx : LtW n (v ++ a ++ x) := by
        have : v ++ (a ++ s) = (v ++ a ++ x) ++ t := by rw [e4]; simp
        rw [this] at l
        exact l.left
      have h2 := m.bel lx h1
      rw [e1, e3]
      refine h2.congr ?_
      have := m.eq.symm.post x
      simpa using this
/-- Down and up again: what lies below both ends, shifted, lies below the bottom, shifted. -/
theorem Mv.valley (hn : n ≤ 1000) (hD : IsUp n D (hf n)) {v a d e : List Int} (hd : NegW n d) (he : PosW n e) (hv : LtW n (v ++ a)) (heq : BE n (v ++ (d ++ e)) (v ++ a))
    (hb : ∀ Y, LtW n Y → LeB n Y (v ++ powB (r : Int) D) → LeB n Y (v ++ a ++ powB (r : Int) D) → LeB n Y (v ++ d ++ powB (r : Int) D)) : Mv n r D v a (d ++ e) := by
  have low : ∀ c1 c2, d ++ e = c1 ++ c2 → LeB n (v ++ d) (v ++ c1) := fun c1 c2 h => by
    rcases app_cases h with ⟨u, e1, e2⟩ | ⟨u, e1, e2⟩
    · have h1 : NegW n u := by rw [e1] at hd; exact hd.right
      have := h1.le (v ++ c1)
      rw [e1]; simpa using this
    · have h1 : PosW n u := by rw [e2] at he; exact he.left
      have := LeB.add (n := n) (x := v ++ d) h1
      rw [e1]; simpa using this
  have hi : ∀ c1 c2, d ++ e = c1 ++ c2 → LeB n (v ++ c1) v ∨ LeB n (v ++ c1) (v ++ a) := fun c1 c2 h => by
    rcases app_cases h with ⟨u, e1, e2⟩ | ⟨u, e1, e2⟩
    · have h1 : NegW n c1 := by rw [e1] at hd; exact hd.left
      exact .inl (h1.le v)
    · have h1 : PosW n c2 := by rw [e2] at he; exact he.right
      refine .inr ((LeB.add (n := n) (x := v ++ c1) h1).congr (.refl _) ?_)
      rw [List.append_assoc, ← h]; exact heq
  refine ⟨heq, fun c1 c2 h Z h1 h3 => ?_, fun c1 c2 h Y lY h1 h3 => ?_, fun h0 c1 c2 c3 h => ?_⟩
  · rcases hi c1 c2 h with h4 | h4
    · exact h4.trans h1
    · exact h4.trans h3
  · exact (hb Y lY h1 h3).trans (k_mono hn hD (low c1 c2 h))
  · have hw : LeB n (v ++ a) (v ++ c1 ++ powB (r : Int) D) := (hb _ hv h0 (k_up hD _)).trans (k_mono hn hD (low c1 (c2 ++ c3) h))
    have h' : d ++ e = (c1 ++ c2) ++ c3 := by rw [h]; simp
    rcases app_cases h' with ⟨u, e1, e2⟩ | ⟨u, e1, e2⟩
    · have h1 : NegW n c2 := by rw [e1] at hd; exact hd.left.right
      have := (h1.le (v ++ c1)).trans (k_up (r := r) hD _)
      simpa using this
    · have h1 : PosW n c3 := by rw [e2] at he; exact he.right
      have h4 := (LeB.add (n := n) (x := v ++ (c1 ++ c2)) h1).congr (.refl _) (y' := v ++ a) (by rw [List.append_assoc, ← h']; exact heq)
      exact h4.trans hw
/-- Up and down again. -/
theorem Mv.peak (hn : n ≤ 1000) (hD : IsUp n D (hf n)) {v a d e : List Int} (hd : PosW n d) (he : NegW n e) (heq : BE n (v ++ (d ++ e)) (v ++ a))
    (ht : ∀ Z, LeB n v Z → LeB n (v ++ a) Z → LeB n (v ++ d) Z) : Mv n r D v a (d ++ e) := by
  have up : ∀ c1 c2, d ++ e = c1 ++ c2 → LeB n (v ++ c1) (v ++ d) := fun c1 c2 h => by
    rcases app_cases h with ⟨u, e1, e2⟩ | ⟨u, e1, e2⟩
    · have h1 : PosW n u := by rw [e1] at hd; exact hd.right
      have := LeB.add (n := n) (x := v ++ c1) h1
      rw [e1]; simpa using this
    · have h1 : NegW n u := by rw [e2] at he; exact he.left
      have := h1.le (v ++ d)
      rw [e1]; simpa using this
  refine ⟨heq, fun c1 c2 h Z h1 h3 => (up c1 c2 h).trans (ht Z h1 h3), fun c1 c2 h Y lY h1 h3 => ?_, fun h0 c1 c2 c3 h => ?_⟩
  · rcases app_cases h with ⟨u, e1, e2⟩ | ⟨u, e1, e2⟩
    · have h4 : PosW n c1 := by rw [e1] at hd; exact hd.left
      exact h1.trans (k_mono hn hD (LeB.add h4))
    · have h4 : NegW n c2 := by rw [e2] at he; exact he.right
      have h5 := (h4.le (v ++ c1)).congr (x' := v ++ a) (by rw [List.append_assoc, ← h]; exact heq) (.refl _)
      exact h3.trans (k_mono hn hD h5)
  · rcases app_cases h with ⟨u, e1, e2⟩ | ⟨u, e1, e2⟩
    · have h4 : PosW n c1 := by rw [e1] at hd; exact hd.left
      have h5 := up (c1 ++ c2) c3 (by rw [h]; simp)
      exact h5.trans ((ht _ (k_up hD v) h0).trans (k_mono hn hD (LeB.add h4)))
    · have h4 : NegW n c2 := by rw [e2] at he; exact he.right.left
      have := (h4.le (v ++ c1)).trans (k_up (r := r) hD _)
      simpa using this
theorem neg1 {i : Nat} (hi : i + 1 < n) : NegW n [-ltr i] := fun x hx => by
  rw [List.mem_singleton.1 hx]
  exact ⟨by unfold ltr; omega, lt_neg (lt_ltr hi)⟩
theorem neg2 {i j : Nat} (hi : i + 1 < n) (hj : j + 1 < n) : NegW n [-ltr j, -ltr i] := fun x hx => by
  simp only [List.mem_cons, List.not_mem_nil, or_false] at hx
  rcases hx with rfl | rfl
  · exact neg1 hj _ (by simp)
  · exact neg1 hi _ (by simp)
theorem pos2 {i j : Nat} (hi : i + 1 < n) (hj : j + 1 < n) : PosW n [ltr j, ltr i] := fun x hx => by
  simp only [List.mem_cons, List.not_mem_nil, or_false] at hx
  rcases hx with rfl | rfl
  · exact pos_ltr hj
  · exact pos_ltr hi
/-- Far letters change places. -/
theorem mv_far (hn : n ≤ 1000) (h2 : 2 ≤ n) (hD : IsUp n D (hf n)) {v : List Int} (hv : LtW n v) {x y : Int} (hx : LtB n x) (hy : LtB n y) (hf : x.natAbs + 1 < y.natAbs ∨ y.natAbs + 1 < x.natAbs) : Mv n r D v [x, y] [y, x] := by
  have hc : BE n (v ++ [y, x]) (v ++ [x, y]) := ((BE.far hx hy hf).pre v).symm
  have lva : LtW n (v ++ [x, y]) := hv.app (lwc hx (lw1 hy))
  rcases Int.lt_or_lt_of_ne hx.1 with xn | xp
  · rcases Int.lt_or_lt_of_ne hy.1 with yn | yp
    · obtain ⟨i, hi, rfl⟩ := neg_of hx xn
      obtain ⟨j, hj, rfl⟩ := neg_of hy yn
      have := Mv.valley (r := r) (d := [-ltr j, -ltr i]) (e := []) hn hD (neg2 hi hj) posW_nil lva (by simpa using hc) fun Y _ _ h => h.congr (.refl _) (hc.symm.post _)
      simpa using this
    · obtain ⟨i, hi, rfl⟩ := neg_of hx xn
      obtain ⟨j, hj, rfl⟩ := pos_of hy yp
      refine Mv.peak (d := [ltr j]) (e := [-ltr i]) hn hD (PosW.one (pos_ltr hj)) (neg1 hi) hc fun Z h1 h3 => ?_
      have hb : LtW n (v ++ [-ltr i]) := hv.app (lw1 hx)
      have e1 : BE n (v ++ [-ltr i] ++ [ltr i]) v := by have := cancelAt (v := v) hx; rwa [Int.neg_neg] at this
      have h4 := LeB.lcm hn h2 hi hj hb (p := Z) (h1.congr e1.symm (.refl _)) (by simpa using h3)
      have e2 : lcmB i j = [ltr i] ++ [ltr j] := by unfold lcmB; rw [if_pos (by unfold ltr at hf; omega)]; rfl
      rw [e2, ← List.append_assoc] at h4
      exact h4.congr (e1.post _) (.refl _)
  · rcases Int.lt_or_lt_of_ne hy.1 with yn | yp
    · obtain ⟨i, hi, rfl⟩ := pos_of hx xp
      obtain ⟨j, hj, rfl⟩ := neg_of hy yn
      refine Mv.valley (d := [-ltr j]) (e := [ltr i]) hn hD (neg1 hj) (PosW.one (pos_ltr hi)) lva hc fun Y lY h1 h3 => ?_
      have e1 : BE n (v ++ [ltr i] ++ [-ltr i]) v := cancelAt hx
      have h4 := k_lcmR (r := r) hn h2 hD hj hi (p := v ++ [ltr i]) lY (by simpa using h3) (h1.congr (.refl _) (e1.symm.post _))
      have e2 : invB (lcmB j i) = [-ltr i] ++ [-ltr j] := by unfold lcmB; rw [if_pos (by unfold ltr at hf; omega)]; rfl
      rw [e2, ← List.append_assoc] at h4
      exact h4.congr (.refl _) ((e1.post _).post _)
    · obtain ⟨i, hi, rfl⟩ := pos_of hx xp
      obtain ⟨j, hj, rfl⟩ := pos_of hy yp
      have := Mv.peak (r := r) (d := [ltr j, ltr i]) (e := []) hn hD (pos2 hi hj) (fun x hx => by simp at hx) (by simpa using hc) fun Z _ h => h.congr hc.symm (.refl _)
      simpa using this
theorem lcm_near {i j : Nat} (h : i + 1 = j ∨ j + 1 = i) : lcmB i j = [ltr i, ltr j, ltr i] := by
  unfold lcmB
  rw [if_neg (by omega), if_neg (by omega)]
theorem braid_near {i j : Nat} (hi : i + 1 < n) (hj : j + 1 < n) (h : i + 1 = j ∨ j + 1 = i) : BE n [ltr i, ltr j, ltr i] [ltr j, ltr i, ltr j] := by
  have := ltr_swap hi hj
  rwa [lcm_near h, lcm_near (by omega)] at this
/-- Near letters, up and down: under the hexagon. -/
theorem mv_low (hn : n ≤ 1000) (h2 : 2 ≤ n) (hD : IsUp n D (hf n)) {v : List Int} (hv : LtW n v) {i j : Nat} (hi : i + 1 < n) (hj : j + 1 < n) (h : i + 1 = j ∨ j + 1 = i) : Mv n r D v [ltr i, -ltr j] [-ltr j, -ltr i, ltr j, ltr i] := by
  have li := lt_ltr hi
  have lj := lt_ltr hj
  have lva : LtW n (v ++ [ltr i, -ltr j]) := hv.app (lwc li (lw1 (lt_neg lj)))
  have hc : BE n ([-ltr j, -ltr i, ltr j, ltr i]) ([ltr i, -ltr j]) := by
    refine BE.cancelL (a := [ltr i, ltr j]) ?_ (lwc li (lw1 lj))
    have h1 := BE.ctx [ltr i] [-ltr i, ltr j, ltr i] (BE.cancel lj)
    have h3 := BE.ctx [] [ltr j, ltr i] (BE.cancel li)
    have h4 := (braid_near hi hj h).post [-ltr j]
    have h5 := BE.ctx [ltr j, ltr i] [] (BE.cancel lj)
    simp only [List.cons_append, List.nil_append, List.append_nil] at h1 h3 h4 h5 ⊢
    exact (h1.trans h3).trans (h4.trans h5).symm
  refine Mv.valley (d := [-ltr j, -ltr i]) (e := [ltr j, ltr i]) hn hD (neg2 hi hj) (pos2 hi hj) lva (hc.pre v) fun Y lY h1 h3 => ?_
  have e1 : BE n (v ++ [ltr i] ++ [-ltr i]) v := cancelAt li
  have h4 := k_lcmR (r := r) hn h2 hD hi hj (p := v ++ [ltr i]) lY (h1.congr (.refl _) (e1.symm.post _)) (by simpa using h3)
  rw [lcm_near h] at h4
  refine h4.congr (.refl _) ?_
  have := e1.post ([-ltr j, -ltr i] ++ powB (r : Int) D)
  simpa [invB] using this
theorem mv_high (hn : n ≤ 1000) (h2 : 2 ≤ n) (hD : IsUp n D (hf n)) {v : List Int} (hv : LtW n v) {i j : Nat} (hi : i + 1 < n) (hj : j + 1 < n) (h : i + 1 = j ∨ j + 1 = i) : Mv n r D v [-ltr i, ltr j] [ltr j, ltr i, -ltr j, -ltr i] := by
  have li := lt_ltr hi
  have lj := lt_ltr hj
  have hc : BE n ([ltr j, ltr i, -ltr j, -ltr i]) ([-ltr i, ltr j]) := by
    refine BE.cancelR (a := [ltr i, ltr j]) ?_ (lwc li (lw1 lj))
    have h1 := BE.ctx [ltr j, ltr i, -ltr j] [ltr j] (BE.cancel (lt_neg li))
    have h3 := BE.ctx [ltr j, ltr i] [] (BE.cancel (lt_neg lj))
    have h4 := (braid_near hi hj h).pre [-ltr i]
    have h5 := BE.ctx [] [ltr j, ltr i] (BE.cancel (lt_neg li))
    simp only [List.cons_append, List.nil_append, List.append_nil, Int.neg_neg] at h1 h3 h4 h5 ⊢
    exact (h1.trans h3).trans (h5.symm.trans h4)
  refine Mv.peak (d := [ltr j, ltr i]) (e := [-ltr j, -ltr i]) hn hD (pos2 hi hj) (neg2 hi hj) (hc.pre v) fun Z h1 h3 => ?_
  have hb : LtW n (v ++ [-ltr i]) := hv.app (lw1 (lt_neg li))
  have e1 : BE n (v ++ [-ltr i] ++ [ltr i]) v := by have := cancelAt (v := v) (lt_neg li); rwa [Int.neg_neg] at this
  have h4 := LeB.lcm hn h2 hi hj hb (p := Z) (h1.congr e1.symm (.refl _)) (by simpa using h3)
  rw [lcm_near h] at h4
  refine h4.congr ?_ (.refl _)
  have := e1.post [ltr j, ltr i]
  simpa using this
end
end Go.Proofs.Ytnmklkjlcpgjmaa

namespace Go.Proofs.Ytnmklkjlcpgjmaa
open Go.RowKit Go.Sl

section
variable {n r : Nat} {D : List Int}
/-- The path w may become w': whatever follows. -/
def Rw (n r : Nat) (D w w' : List Int) : Prop := ∀ s, LtW n (w ++ s) → (∀ Y, LtW n Y → Bel n r D Y (w ++ s) → Bel n r D Y (w' ++ s)) ∧ (Rho n r D (w ++ s) → Rho n r D (w' ++ s))
theorem Rw.trans {a b c : List Int} (h : Rw n r D a b) (hb : LtW n b) (k : Rw n r D b c) : Rw n r D a c := fun s l => by
  obtain ⟨h1, h3⟩ := h s l
  obtain ⟨k1, k3⟩ := k s (hb.app l.right)
  exact ⟨fun Y lY hh => k1 Y lY (h1 Y lY hh), fun hh => k3 (h3 hh)⟩
theorem Rw.post {a b : List Int} (h : Rw n r D a b) (t : List Int) : Rw n r D (a ++ t) (b ++ t) := fun s l => by
  rw [List.append_assoc] at l
  have := h (t ++ s) l
  simpa using this
theorem Mv.rw {v a c : List Int} (m : Mv n r D v a c) : Rw n r D (v ++ a) (v ++ c) := fun s l => by
  rw [List.append_assoc] at l
  refine ⟨fun Y lY h => ?_, fun h => ?_⟩
  · rw [List.append_assoc] at h ⊢
    exact m.bel lY h
  · rw [List.append_assoc] at h ⊢
    exact m.rho l h
theorem mv_cancel (hD : IsUp n D (hf n)) {v : List Int} {x : Int} (hx : LtB n x) : Mv n r D v [x, -x] [] := by
  have e : BE n (v ++ []) (v ++ [x, -x]) := by
    have := cancelAt (v := v) hx
    rw [List.append_nil]
    simpa using this.symm
  have z : ∀ {c1 c2 : List Int}, [] = c1 ++ c2 → c1 = [] := fun h => (List.append_eq_nil_iff.1 h.symm).1
  refine ⟨e, fun c1 c2 h Z h1 _ => ?_, fun c1 c2 h Y _ h1 _ => ?_, fun _ c1 c2 c3 h => ?_⟩
  · rw [z h, List.append_nil]; exact h1
  · rw [z h, List.append_nil]; exact h1
  · obtain rfl := z h
    obtain rfl := z (show [] = c2 ++ c3 from h)
    simpa using k_up (r := r) hD v
theorem rw_cancel (hD : IsUp n D (hf n)) {v : List Int} {x : Int} (hx : LtB n x) : Rw n r D (v ++ [x, -x]) v := by
  have := (mv_cancel (r := r) hD (v := v) hx).rw
  rwa [List.append_nil] at this
/-- The first end of a handle moves over a letter. -/
theorem rw_R (hn : n ≤ 1000) (h2 : 2 ≤ n) (hD : IsUp n D (hf n)) {v : List Int} (hv : LtW n v) {x y : Int} (hx : LtB n x) (hy : LtB n y) (hf : x.natAbs + 1 < y.natAbs ∨ (y.natAbs = x.natAbs + 1 ∧ y.sign = -x.sign)) : Mv n r D v [x, y] (midB x y ++ [x]) := by
  rcases hf with hf | ⟨hk, hs⟩
  · rw [midB_far (by omega)]
    exact mv_far hn h2 hD hv hx hy (.inl hf)
  · rw [midB_near hk]
    rcases Int.lt_or_lt_of_ne hx.1 with xn | xp
    · rw [sgn_neg xn] at hs ⊢
      have yp : 0 < y := by
        rcases Int.lt_or_lt_of_ne hy.1 with h | h
        · rw [sgn_neg h] at hs; omega
        · exact h
      rw [sgn_pos yp]
      obtain ⟨i, hi, rfl⟩ := neg_of hx xn
      obtain ⟨j, hj, rfl⟩ := pos_of hy yp
      rw [Int.natAbs_neg, ltr_abs, ltr_abs] at hk
      obtain rfl : j = i + 1 := by omega
      have e1 : -(-1 * ((((-ltr i).natAbs + 1 : Nat)) : Int)) = ltr (i + 1) := by rw [Int.natAbs_neg, ltr_abs]; unfold ltr; omega
      have e2 : (1 : Int) * ((-ltr i).natAbs : Int) = ltr i := by rw [Int.natAbs_neg, ltr_abs]; unfold ltr; omega
      have e3 : -1 * ((((-ltr i).natAbs + 1 : Nat)) : Int) = -ltr (i + 1) := by rw [Int.natAbs_neg, ltr_abs]; unfold ltr; omega
      rw [e1, e2, e3]
      exact mv_high hn h2 hD hv hi hj (.inl rfl)
    · rw [sgn_pos xp] at hs ⊢
      have yn : y < 0 := by
        rcases Int.lt_or_lt_of_ne hy.1 with h | h
        · exact h
        · rw [sgn_pos h] at hs; omega
      rw [sgn_neg yn]
      obtain ⟨i, hi, rfl⟩ := pos_of hx xp
      obtain ⟨j, hj, rfl⟩ := neg_of hy yn
      rw [Int.natAbs_neg, ltr_abs, ltr_abs] at hk
      obtain rfl : j = i + 1 := by omega
      have e1 : -(1 * ((((ltr i).natAbs + 1 : Nat)) : Int)) = -ltr (i + 1) := by rw [ltr_abs]; unfold ltr; omega
      have e2 : (-1 : Int) * ((ltr i).natAbs : Int) = -ltr i := by rw [ltr_abs]; unfold ltr; omega
      have e3 : 1 * ((((ltr i).natAbs + 1 : Nat)) : Int) = ltr (i + 1) := by rw [ltr_abs]; unfold ltr; omega
      rw [e1, e2, e3]
      exact mv_low hn h2 hD hv hi hj (.inl rfl)
/-- The last end of a handle moves over a letter. -/
theorem rw_L (hn : n ≤ 1000) (h2 : 2 ≤ n) (hD : IsUp n D (hf n)) {v : List Int} (hv : LtW n v) {x y : Int} (hx : LtB n x) (hy : LtB n y) (hf : x.natAbs + 1 < y.natAbs ∨ (y.natAbs = x.natAbs + 1 ∧ y.sign = x.sign)) : Mv n r D v [y, -x] ([-x] ++ midB x y) := by
  rcases hf with hf | ⟨hk, hs⟩
  · rw [midB_far (by omega)]
    exact mv_far hn h2 hD hv hy (lt_neg hx) (.inr (by rw [Int.natAbs_neg]; exact hf))
  · rw [midB_near hk]
    rcases Int.lt_or_lt_of_ne hx.1 with xn | xp
    · rw [sgn_neg xn] at hs ⊢
      have yn : y < 0 := by
        rcases Int.lt_or_lt_of_ne hy.1 with h | h
        · exact h
        · rw [sgn_pos h] at hs; omega
      rw [sgn_neg yn]
      obtain ⟨i, hi, rfl⟩ := neg_of hx xn
      obtain ⟨j, hj, rfl⟩ := neg_of hy yn
      rw [Int.natAbs_neg, Int.natAbs_neg, ltr_abs, ltr_abs] at hk
      obtain rfl : j = i + 1 := by omega
      have e1 : -(-1 * ((((-ltr i).natAbs + 1 : Nat)) : Int)) = ltr (i + 1) := by rw [Int.natAbs_neg, ltr_abs]; unfold ltr; omega
      have e2 : (-1 : Int) * ((-ltr i).natAbs : Int) = -ltr i := by rw [Int.natAbs_neg, ltr_abs]; unfold ltr; omega
      have e3 : -1 * ((((-ltr i).natAbs + 1 : Nat)) : Int) = -ltr (i + 1) := by rw [Int.natAbs_neg, ltr_abs]; unfold ltr; omega
      rw [e1, e2, e3, Int.neg_neg]
      exact mv_high (r := r) hn h2 hD hv hj hi (.inr rfl)
    · rw [sgn_pos xp] at hs ⊢
      have yp : 0 < y := by
        rcases Int.lt_or_lt_of_ne hy.1 with h | h
        · rw [sgn_neg h] at hs; omega
        · exact h
      rw [sgn_pos yp]
      obtain ⟨i, hi, rfl⟩ := pos_of hx xp
      obtain ⟨j, hj, rfl⟩ := pos_of hy yp
      rw [ltr_abs, ltr_abs] at hk
      obtain rfl : j = i + 1 := by omega
      have e1 : -(1 * ((((ltr i).natAbs + 1 : Nat)) : Int)) = -ltr (i + 1) := by rw [ltr_abs]; unfold ltr; omega
      have e2 : (1 : Int) * ((ltr i).natAbs : Int) = ltr i := by rw [ltr_abs]; unfold ltr; omega
      have e3 : 1 * ((((ltr i).natAbs + 1 : Nat)) : Int) = ltr (i + 1) := by rw [ltr_abs]; unfold ltr; omega
      rw [e1, e2, e3]
      exact mv_low (r := r) hn h2 hD hv hj hi (.inr rfl)
theorem rw_chainR (hn : n ≤ 1000) (h2 : 2 ≤ n) (hD : IsUp n D (hf n)) {x : Int} (hx : LtB n x) (M : List Int) : ∀ v : List Int, LtW n v → LtW n M → (∀ y ∈ M, x.natAbs + 1 < y.natAbs ∨ (y.natAbs = x.natAbs + 1 ∧ y.sign = -x.sign)) → Rw n r D (v ++ x :: M) (v ++ (midW x M ++ [x])) := by
  induction M with
  | nil => exact fun v _ _ _ s _ => ⟨fun _ _ h => by simpa [midW] using h, fun h => by simpa [midW] using h⟩
  | cons y M ih =>
    intro v hv hM hf
    have hy := hM y (by simp)
    have hMM : LtW n M := fun z hz => hM z (by simp [hz])
    have lm := midB_lt hx hy
    have h1 := ((rw_R (r := r) hn h2 hD hv hx hy (hf y (by simp))).rw).post M
    have h3 := ih (v ++ midB x y) (hv.app lm) hMM fun z hz => hf z (by simp [hz])
    have e1 : (v ++ [x, y]) ++ M = v ++ x :: y :: M := by simp
    have e3 : (v ++ (midB x y ++ [x])) ++ M = (v ++ midB x y) ++ x :: M := by simp
    rw [e1, e3] at h1
    have h4 := h1.trans ((hv.app lm).app (lwc hx hMM)) h3
    rw [midW_cons]
    simpa using h4
theorem rw_chainL (hn : n ≤ 1000) (h2 : 2 ≤ n) (hD : IsUp n D (hf n)) {x : Int} (hx : LtB n x) (M : List Int) : ∀ v : List Int, LtW n v → LtW n M → (∀ y ∈ M, x.natAbs + 1 < y.natAbs ∨ (y.natAbs = x.natAbs + 1 ∧ y.sign = x.sign)) → Rw n r D (v ++ (M ++ [-x])) (v ++ ([-x] ++ midW x M)) := by
  induction M with
  | nil => exact fun v _ _ _ s _ => ⟨fun _ _ h => by simpa [midW] using h, fun h => by simpa [midW] using h⟩
  | cons y M ih =>
    intro v hv hM hf
    have hy := hM y (by simp)
    have hMM : LtW n M := fun z hz => hM z (by simp [hz])
    have h1 := ih (v ++ [y]) (hv.app (lw1 hy)) hMM fun z hz => hf z (by simp [hz])
    have h3 := ((rw_L (r := r) hn h2 hD hv hx hy (hf y (by simp))).rw).post (midW x M)
    have e1 : (v ++ [y]) ++ (M ++ [-x]) = v ++ (y :: M ++ [-x]) := by simp
    have e3 : (v ++ [y]) ++ ([-x] ++ midW x M) = (v ++ [y, -x]) ++ midW x M := by simp
    rw [e1, e3] at h1
    have h4 := h1.trans ((hv.app (lwc hy (lw1 (lt_neg hx)))).app (midW_lt hx hMM)) h3
    rw [midW_cons]
    simpa using h4
/-- A handle. -/
theorem rw_handle (hn : n ≤ 1000) (h2 : 2 ≤ n) (hD : IsUp n D (hf n)) {x : Int} (hx : LtB n x) {M v : List Int} (hv : LtW n v) (hM : LtW n M) (hi : ∀ y ∈ M, x.natAbs < y.natAbs) (ho : OneSign x M) : Rw n r D (v ++ (x :: M ++ [-x])) (v ++ midW x M) := by
  rcases near_of hi ho with hf | hf
  · have h1 := rw_chainL (r := r) hn h2 hD hx M (v ++ [x]) (hv.app (lw1 hx)) hM hf
    have h3 := (rw_cancel (r := r) hD (v := v) hx).post (midW x M)
    have e1 : (v ++ [x]) ++ (M ++ [-x]) = v ++ (x :: M ++ [-x]) := by simp
    have e3 : (v ++ [x]) ++ ([-x] ++ midW x M) = (v ++ [x, -x]) ++ midW x M := by simp
    rw [e1, e3] at h1
    exact h1.trans ((hv.app (lwc hx (lw1 (lt_neg hx)))).app (midW_lt hx hM)) h3
  · have h1 := (rw_chainR (r := r) hn h2 hD hx M v hv hM hf).post [-x]
    have h3 := rw_cancel (r := r) hD (v := v ++ midW x M) hx
    have e1 : (v ++ x :: M) ++ [-x] = v ++ (x :: M ++ [-x]) := by simp
    have e3 : (v ++ (midW x M ++ [x])) ++ [-x] = (v ++ midW x M) ++ [x, -x] := by simp
    rw [e1, e3] at h1
    exact h1.trans ((hv.app (midW_lt hx hM)).app (lwc hx (lw1 (lt_neg hx)))) h3
/-- Within a word. -/
theorem rw_handle' (hn : n ≤ 1000) (h2 : 2 ≤ n) (hD : IsUp n D (hf n)) {P M s : List Int} {x : Int} (l : LtW n (P ++ (x :: M ++ (-x) :: s))) (hM : ∀ y ∈ M, x.natAbs < y.natAbs) (ho : OneSign x M) :
    (∀ Y, LtW n Y → Bel n r D Y (P ++ (x :: M ++ (-x) :: s)) → Bel n r D Y (P ++ (midW x M ++ s))) ∧ (Rho n r D (P ++ (x :: M ++ (-x) :: s)) → Rho n r D (P ++ (midW x M ++ s))) := by
  have e : P ++ (x :: M ++ (-x) :: s) = P ++ (x :: M ++ [-x]) ++ s := by simp
  have lx : LtB n x := l x (by simp)
  have lM : LtW n M := fun z hz => l z (by simp [hz])
  rw [e] at l ⊢
  have := rw_handle (r := r) hn h2 hD lx l.left.left lM hM ho s l
  rwa [List.append_assoc P (midW x M) s] at this
end
end Go.Proofs.Ytnmklkjlcpgjmaa


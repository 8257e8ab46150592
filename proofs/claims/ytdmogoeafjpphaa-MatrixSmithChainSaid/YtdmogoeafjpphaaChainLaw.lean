/- SMITH: each determinantal divisor squared divides the product of its neighbours; adding a row to another one keeps them. No program. -/
import Derived.Test.YtdmogoeafjpphaaTurnLaw
namespace Go.Proofs.Ytdmogoeafjpphaa
open Go.RowKit Go.Sl

/-- All minors with k rows below R and k columns below C, in any order, are multiples of D. -/
def AllDiv (a : Nat → Nat → Int) (R C k : Nat) (D : Int) : Prop := ∀ rs cs : List Nat, rs.length = k → cs.length = k → (∀ r ∈ rs, r < R) → (∀ c ∈ cs, c < C) → D ∣ minL a rs cs
/-- The determinant of a list of rows. -/
def minF : List (Nat → Int) → List Nat → Int
  | [], _ => 1
  | f :: fs, cs => altS (sel cs) 1 fun d ds => f d * minF fs ds
theorem minL_F (a : Nat → Nat → Int) (rs : List Nat) : ∀ cs, minL a rs cs = minF (rs.map a) cs := by
  induction rs with
  | nil => intro cs; rfl
  | cons r rs ih =>
    intro cs
    rw [List.map_cons, minL, minF]
    exact altS_congr (fun p _ => by rw [ih]) 1
theorem altS_lin (l : List (Nat × List Nat)) (k : Int) (g h : Nat → List Nat → Int) : ∀ s, altS l s (fun d ds => g d ds + k * h d ds) = altS l s g + k * altS l s h := by
  induction l with
  | nil => intro s; simp [altS]
  | cons p l ih => intro s; obtain ⟨d, ds⟩ := p; rw [altS, altS, altS, ih]; grind
theorem minF_lin (f g : Nat → Int) (k : Int) (post : List (Nat → Int)) : ∀ (pre : List (Nat → Int)) (cs : List Nat),
    minF (pre ++ (fun j => f j + k * g j) :: post) cs = minF (pre ++ f :: post) cs + k * minF (pre ++ g :: post) cs := by
  intro pre
  induction pre with
  | nil =>
    intro cs
    simp only [List.nil_append, minF]
    rw [← altS_lin]
    exact altS_congr (fun p _ => by grind) 1
  | cons p pre ih =>
    intro cs
    simp only [List.cons_append, minF]
    rw [← altS_lin]
    exact altS_congr (fun q _ => by rw [ih]; grind) 1
/-- The row x, with c times the row y added. -/
def rowAdd (a : Nat → Nat → Int) (x y : Nat) (c : Int) : Nat → Nat → Int := fun i => if i = x then fun j => a x j + c * a y j else a i
theorem AllDiv.rowAdd {a : Nat → Nat → Int} {R C k : Nat} {D : Int} (h : AllDiv a R C k D) {x y : Nat} (hy : y < R) (c : Int) : AllDiv (rowAdd a x y c) R C k D := by
  have : ∀ (rs pre cs : List Nat), pre.length + rs.length = k → cs.length = k → (∀ r ∈ pre, r < R) → (∀ r ∈ rs, r < R) → (∀ c ∈ cs, c < C) → D ∣ minF (pre.map a ++ rs.map (Go.Proofs.Ytdmogoeafjpphaa.rowAdd a x y c)) cs := by
    intro rs
    induction rs with
    | nil =>
      intro pre cs h1 h2 h3 _ h5
      rw [List.map_nil, List.append_nil, ← minL_F]
      exact h pre cs (by simpa using h1) h2 h3 h5
    | cons r rs ih =>
      intro pre cs h1 h2 h3 h4 h5
      have hr := h4 r (by simp)
      have hrs : ∀ q ∈ rs, q < R := fun q hq => h4 q (by simp [hq])
      have key : ∀ z, z < R → D ∣ minF (pre.map a ++ a z :: rs.map (Go.Proofs.Ytdmogoeafjpphaa.rowAdd a x y c)) cs := by
        intro z hz
        have := ih (pre ++ [z]) cs (by simp at h1 ⊢; omega) h2 (by intro q hq; rcases List.mem_append.1 hq with h | h; exact h3 q h; simp at h; omega) hrs h5
        simpa using this
      rw [List.map_cons]
      by_cases e : r = x
      · subst e
        rw [show Go.Proofs.Ytdmogoeafjpphaa.rowAdd a r y c r = fun j => a r j + c * a y j from by simp [Go.Proofs.Ytdmogoeafjpphaa.rowAdd], minF_lin]
        exact Int.dvd_add (key r hr) (Int.dvd_mul_of_dvd_right (key y hy))
      · rw [show Go.Proofs.Ytdmogoeafjpphaa.rowAdd a x y c r = a r from by simp [Go.Proofs.Ytdmogoeafjpphaa.rowAdd, e]]
        exact key r hr
  intro rs cs h1 h2 h3 h4
  rw [minL_F]
  exact this rs [] cs (by simpa using h1) h2 (by simp) h3 h4
theorem rowAdd_back (a : Nat → Nat → Int) {x y : Nat} (hxy : x ≠ y) (c : Int) : rowAdd (rowAdd a x y c) x y (-c) = a := by
  funext i j
  unfold rowAdd
  by_cases e : i = x
  · subst e; simp [Ne.symm hxy]; grind
  · simp [e]

/-- Two matrices with the same divisors of minors. -/
def Same (R C : Nat) (a b : Nat → Nat → Int) : Prop := ∀ k D, k ≤ 5 → (AllDiv a R C k D ↔ AllDiv b R C k D)
theorem Same.refl (R C : Nat) (a : Nat → Nat → Int) : Same R C a a := fun _ _ _ => Iff.rfl
theorem Same.trans {R C : Nat} {a b c : Nat → Nat → Int} (h : Same R C a b) (k : Same R C b c) : Same R C a c := fun j D hj => (h j D hj).trans (k j D hj)
theorem same_row {R C : Nat} (a : Nat → Nat → Int) {x y : Nat} (hxy : x ≠ y) (hy : y < R) (c : Int) : Same R C a (rowAdd a x y c) := fun k D _ =>
  ⟨fun h => h.rowAdd hy c, fun h => by have := h.rowAdd (x := x) hy (-c); rwa [rowAdd_back a hxy] at this⟩
def flip (a : Nat → Nat → Int) : Nat → Nat → Int := fun i j => a j i
theorem AllDiv.flip {a : Nat → Nat → Int} {R C k : Nat} {D : Int} (hk : k ≤ 5) (h : AllDiv a R C k D) : AllDiv (flip a) C R k D := by
  intro rs cs h1 h2 h3 h4
  have := h cs rs h2 h1 h4 h3
  rwa [← minL_turn a cs rs (by omega) (by omega)] at this
theorem Same.flip {R C : Nat} {a b : Nat → Nat → Int} (h : Same R C a b) : Same C R (flip a) (flip b) := fun k D hk =>
  ⟨fun h1 => ((h k D hk).1 (h1.flip hk)).flip hk, fun h1 => ((h k D hk).2 (h1.flip hk)).flip hk⟩
def colAdd (a : Nat → Nat → Int) (x y : Nat) (c : Int) : Nat → Nat → Int := flip (rowAdd (flip a) x y c)
theorem same_col {R C : Nat} (a : Nat → Nat → Int) {x y : Nat} (hxy : x ≠ y) (hy : y < C) (c : Int) : Same R C a (colAdd a x y c) := by
  have := (same_row (R := C) (C := R) (flip a) hxy hy c).flip
  exact this
theorem colAdd_at (a : Nat → Nat → Int) (x y : Nat) (c : Int) (i j : Nat) : colAdd a x y c i j = if j = x then a i x + c * a i y else a i j := by
  unfold colAdd flip rowAdd
  split <;> simp_all
theorem rowAdd_at (a : Nat → Nat → Int) (x y : Nat) (c : Int) (i j : Nat) : rowAdd a x y c i j = if i = x then a x j + c * a y j else a i j := by
  unfold rowAdd
  split <;> simp_all
/-- Rows under other numbers. -/
theorem AllDiv.map {a : Nat → Nat → Int} {R C k : Nat} {D : Int} (h : AllDiv a R C k D) (s : Nat → Nat) (hs : ∀ i, i < R → s i < R) : AllDiv (fun i j => a (s i) j) R C k D := by
  intro rs cs h1 h2 h3 h4
  rw [minL_map]
  exact h _ cs (by simpa using h1) h2 (by intro r hr; obtain ⟨q, hq, rfl⟩ := List.mem_map.1 hr; exact hs q (h3 q hq)) h4
theorem swap_swap (x y i : Nat) : swap x y (swap x y i) = i := by
  unfold swap
  by_cases h1 : i = x
  · subst h1; simp
  · by_cases h2 : i = y
    · subst h2; simp [h1]
    · simp [h1, h2]
theorem same_swap {R C : Nat} (a : Nat → Nat → Int) {x y : Nat} (hx : x < R) (hy : y < R) : Same R C a (fun i j => a (swap x y i) j) := fun k D _ =>
  ⟨fun h => h.map _ (fun i hi => swap_lt hx hy hi), fun h => by
    have := h.map (swap x y) (fun i hi => swap_lt hx hy hi)
    simpa only [swap_swap] using this⟩

theorem rem_of {p q : Int} (hp : p ≠ 0) (h : ¬ p ∣ q) : q + -(q / p) * p ≠ 0 ∧ (q + -(q / p) * p).natAbs < p.natAbs := by
  have h1 := Int.emod_nonneg q hp
  have h2 := Int.emod_lt q hp
  have h3 := Int.mul_ediv_add_emod q p
  have h4 : q + -(q / p) * p = q % p := by rw [← h3]; grind
  rw [h4]
  exact ⟨fun e => h (Int.dvd_of_emod_eq_zero e), by omega⟩

/-- An equivalent matrix has an element that divides all elements. -/
theorem pivot {R C : Nat} : ∀ (N : Nat) (a : Nat → Nat → Int) (i j : Nat), i < R → j < C → a i j ≠ 0 → (a i j).natAbs ≤ N →
    ∃ b i j, Same R C a b ∧ i < R ∧ j < C ∧ b i j ≠ 0 ∧ ∀ r c, r < R → c < C → b i j ∣ b r c := by
  intro N
  induction N with
  | zero => intro a i j _ _ h0 h; omega
  | succ N ih =>
    intro a i j hi hj h0 hN
    have inRow : ∀ (a : Nat → Nat → Int), a i j ≠ 0 → (a i j).natAbs ≤ N + 1 → ∀ c, c < C → ¬ a i j ∣ a i c → ∃ b i j, Same R C a b ∧ i < R ∧ j < C ∧ b i j ≠ 0 ∧ ∀ r c, r < R → c < C → b i j ∣ b r c := by
      intro a h0 hN c hc hd
      have hcj : c ≠ j := fun e => hd (by rw [e]; exact Int.dvd_refl _)
      have hr := rem_of h0 hd
      have hat : colAdd a c j (-(a i c / a i j)) i c = a i c + -(a i c / a i j) * a i j := by rw [colAdd_at, if_pos rfl]
      obtain ⟨b, i', j', hs, h⟩ := ih (colAdd a c j (-(a i c / a i j))) i c hi hc (by rw [hat]; exact hr.1) (by rw [hat]; omega)
      exact ⟨b, i', j', (same_col a hcj hj _).trans hs, h⟩
    by_cases h1 : ∃ c, c < C ∧ ¬ a i j ∣ a i c
    · obtain ⟨c, hc, hd⟩ := h1
      exact inRow a h0 hN c hc hd
    · by_cases h2 : ∃ r, r < R ∧ ¬ a i j ∣ a r j
      · obtain ⟨r, hr, hd⟩ := h2
        have hri : r ≠ i := fun e => hd (by rw [e]; exact Int.dvd_refl _)
        have hm := rem_of h0 hd
        have hat : Go.Proofs.Ytdmogoeafjpphaa.rowAdd a r i (-(a r j / a i j)) r j = a r j + -(a r j / a i j) * a i j := by rw [rowAdd_at, if_pos rfl]
        obtain ⟨b, i', j', hs, h⟩ := ih (Go.Proofs.Ytdmogoeafjpphaa.rowAdd a r i (-(a r j / a i j))) r j hr hj (by rw [hat]; exact hm.1) (by rw [hat]; omega)
        exact ⟨b, i', j', (same_row a hri hi _).trans hs, h⟩
      · by_cases h3 : ∃ r c, r < R ∧ c < C ∧ ¬ a i j ∣ a r c
        · obtain ⟨r, c, hr, hc, hd⟩ := h3
          have d1 : a i j ∣ a i c := Classical.byContradiction fun e => h1 ⟨c, hc, e⟩
          have d2 : a i j ∣ a r j := Classical.byContradiction fun e => h2 ⟨r, hr, e⟩
          have hri : r ≠ i := fun e => hd (by rw [e]; exact d1)
          obtain ⟨q, hq⟩ := d2
          have s1 := same_row (R := R) (C := C) a hri hi (-q)
          have s2 := same_row (R := R) (C := C) (Go.Proofs.Ytdmogoeafjpphaa.rowAdd a r i (-q)) (x := i) (y := r) (Ne.symm hri) hr 1
          have e1 : Go.Proofs.Ytdmogoeafjpphaa.rowAdd (Go.Proofs.Ytdmogoeafjpphaa.rowAdd a r i (-q)) i r 1 i j = a i j := by
            rw [rowAdd_at, if_pos rfl, rowAdd_at, if_neg (Ne.symm hri), rowAdd_at, if_pos rfl, hq]; grind
          have e2 : Go.Proofs.Ytdmogoeafjpphaa.rowAdd (Go.Proofs.Ytdmogoeafjpphaa.rowAdd a r i (-q)) i r 1 i c = a i c + (a r c + -q * a i c) := by
            rw [rowAdd_at, if_pos rfl, rowAdd_at, if_neg (Ne.symm hri), rowAdd_at, if_pos rfl]; grind
          obtain ⟨b, i', j', hs, h⟩ := inRow (Go.Proofs.Ytdmogoeafjpphaa.rowAdd (Go.Proofs.Ytdmogoeafjpphaa.rowAdd a r i (-q)) i r 1) (by rw [e1]; exact h0) (by rw [e1]; exact hN) c hc (by
            rw [e1, e2]
            intro hd2
            obtain ⟨u, hu⟩ := hd2
            obtain ⟨v, hv⟩ := d1
            exact hd ⟨u - v + q * v, by rw [hv] at hu; grind⟩)
          exact ⟨b, i', j', (s1.trans s2).trans hs, h⟩
        · exact ⟨a, i, j, Same.refl _ _ _, hi, hj, h0, fun r c hr hc => Classical.byContradiction fun e => h3 ⟨r, c, hr, hc, e⟩⟩

/-- The first element divides all, and the others of its row and column are 0. -/
structure Led (R C : Nat) (p : Int) (b : Nat → Nat → Int) : Prop where
  head : b 0 0 = p
  row : ∀ c, 0 < c → c < C → b 0 c = 0
  col : ∀ r, 0 < r → r < R → b r 0 = 0
  div : ∀ r c, r < R → c < C → p ∣ b r c
theorem led {R C : Nat} (a : Nat → Nat → Int) (hne : ∃ i j, i < R ∧ j < C ∧ a i j ≠ 0) : ∃ p b, p ≠ 0 ∧ Same R C a b ∧ Led R C p b := by
  obtain ⟨i, j, hi, hj, h0⟩ := hne
  obtain ⟨b, i, j, hs, hi, hj, h0, hd⟩ := pivot _ a i j hi hj h0 (Nat.le_refl _)
  obtain ⟨p, hp⟩ : ∃ p, b i j = p := ⟨_, rfl⟩
  have hR : 0 < R := by omega
  have hC : 0 < C := by omega
  -- the pivot to the head
  obtain ⟨b1, hs1, hp1, hd1⟩ : ∃ b1, Same R C a b1 ∧ b1 0 0 = p ∧ ∀ r c, r < R → c < C → p ∣ b1 r c := by
    refine ⟨flip (fun x y => flip (fun x y => b (swap 0 i x) y) (swap 0 j x) y), ?_, ?_, ?_⟩
    · exact (hs.trans (same_swap b hR hi)).trans ((same_swap (R := C) (C := R) (flip fun x y => b (swap 0 i x) y) hC hj).flip)
    · simp [flip, swap, hp]
    · intro r c hr hc
      rw [← hp]
      exact hd _ _ (swap_lt hR hi hr) (swap_lt hC hj hc)
  -- its row
  have row : ∀ n, n ≤ C → ∃ b, Same R C a b ∧ b 0 0 = p ∧ (∀ r c, r < R → c < C → p ∣ b r c) ∧ ∀ c, 0 < c → c < n → b 0 c = 0 := by
    intro n
    induction n with
    | zero => intro _; exact ⟨b1, hs1, hp1, hd1, fun c _ h => by omega⟩
    | succ n ih =>
      intro hn
      obtain ⟨b, hs, hp, hd, h0⟩ := ih (by omega)
      by_cases hn0 : n = 0
      · exact ⟨b, hs, hp, hd, fun c h1 h2 => by omega⟩
      · obtain ⟨q, hq⟩ := hd 0 n hR (by omega)
        refine ⟨colAdd b n 0 (-q), hs.trans (same_col b hn0 hC _), ?_, ?_, ?_⟩
        · rw [colAdd_at, if_neg (by omega)]; exact hp
        · intro r c hr hc
          rw [colAdd_at]
          split
          · exact Int.dvd_add (hd r n hr (by omega)) (Int.dvd_mul_of_dvd_right (hd r 0 hr hC))
          · exact hd r c hr hc
        · intro c h1 h2
          rw [colAdd_at]
          split
          · rw [hq, hp]; grind
          · exact h0 c h1 (by omega)
  obtain ⟨b2, hs2, hp2, hd2, h2⟩ := row C (Nat.le_refl _)
  have col : ∀ n, n ≤ R → ∃ b, Same R C a b ∧ b 0 0 = p ∧ (∀ r c, r < R → c < C → p ∣ b r c) ∧ (∀ c, 0 < c → c < C → b 0 c = 0) ∧ ∀ r, 0 < r → r < n → b r 0 = 0 := by
    intro n
    induction n with
    | zero => intro _; exact ⟨b2, hs2, hp2, hd2, h2, fun c _ h => by omega⟩
    | succ n ih =>
      intro hn
      obtain ⟨b, hs, hp, hd, h0, h1⟩ := ih (by omega)
      by_cases hn0 : n = 0
      · exact ⟨b, hs, hp, hd, h0, fun c h1 h2 => by omega⟩
      · obtain ⟨q, hq⟩ := hd n 0 (by omega) hC
        refine ⟨rowAdd b n 0 (-q), hs.trans (same_row b hn0 hR _), ?_, ?_, ?_, ?_⟩
        · rw [rowAdd_at, if_neg (by omega)]; exact hp
        · intro r c hr hc
          rw [rowAdd_at]
          split
          · exact Int.dvd_add (hd n c (by omega) hc) (Int.dvd_mul_of_dvd_right (hd 0 c hR hc))
          · exact hd r c hr hc
        · intro c h3 h4
          rw [rowAdd_at, if_neg (by omega)]; exact h0 c h3 h4
        · intro r h3 h4
          rw [rowAdd_at]
          split
          · rw [hq, hp]; grind
          · exact h1 r h3 (by omega)
  obtain ⟨b3, hs3, hp3, hd3, h3, h4⟩ := col R (Nat.le_refl _)
  exact ⟨p, b3, by rw [← hp]; exact h0, hs3, hp3, h3, h4, hd3⟩

end Go.Proofs.Ytdmogoeafjpphaa

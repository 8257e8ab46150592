/- SMITH: the chain of determinantal divisors. No program. -/
import Derived.Test.YtdmogoeafjpphaaChainLaw
namespace Go.Proofs.Ytdmogoeafjpphaa
open Go.RowKit Go.Sl

theorem altS_mulc (l : List (Nat × List Nat)) (k : Int) (g : Nat → List Nat → Int) : ∀ s, altS l s (fun d ds => k * g d ds) = k * altS l s g := by
  induction l with
  | nil => intro s; simp [altS]
  | cons p l ih => intro s; obtain ⟨d, ds⟩ := p; rw [altS, altS, ih]; grind
theorem altS_dvd {D : Int} {g : Nat → List Nat → Int} (l : List (Nat × List Nat)) (h : ∀ p ∈ l, D ∣ g p.1 p.2) : ∀ s, D ∣ altS l s g := by
  induction l with
  | nil => intro s; exact Int.dvd_zero _
  | cons p l ih =>
    intro s
    obtain ⟨d, ds⟩ := p
    rw [altS]
    exact Int.dvd_add (Int.dvd_mul_of_dvd_right (h (d, ds) (by simp))) (ih (fun q hq => h q (by simp [hq])) _)
theorem altS_zero {g : Nat → List Nat → Int} (l : List (Nat × List Nat)) (h : ∀ p ∈ l, g p.1 p.2 = 0) (s : Int) : altS l s g = 0 := by
  have := altS_dvd (D := 0) (g := g) l (fun p hp => by rw [h p hp]; exact Int.dvd_refl _) s
  exact Int.zero_dvd.1 this
theorem sel_len {cs : List Nat} : ∀ p ∈ sel cs, p.2.length + 1 = cs.length := by
  induction cs with
  | nil => intro p hp; simp [sel] at hp
  | cons c cs ih =>
    intro p hp
    rw [sel, List.mem_cons] at hp
    rcases hp with rfl | hp
    · simp
    · obtain ⟨q, hq, rfl⟩ := List.mem_map.1 hp
      have := ih q hq
      simp; omega
theorem sel_keep {cs : List Nat} {x : Nat} : ∀ p ∈ sel cs, x ∈ cs → x ≠ p.1 → x ∈ p.2 := by
  induction cs with
  | nil => intro p hp; simp [sel] at hp
  | cons c cs ih =>
    intro p hp hx hne
    rw [sel, List.mem_cons] at hp
    rcases hp with rfl | hp
    · rcases List.mem_cons.1 hx with h | h
      · exact absurd h hne
      · exact h
    · obtain ⟨q, hq, rfl⟩ := List.mem_map.1 hp
      rcases List.mem_cons.1 hx with h | h
      · simp [h]
      · simp [ih q hq h hne]

set_option maxRecDepth 100000 in
theorem head_swap (a : Nat → Nat → Int) (x y : Nat) (rest cs : List Nat) (h : cs.length = rest.length + 2) (h2 : rest.length ≤ 2) : minL a (x :: y :: rest) cs = -minL a (y :: x :: rest) cs := by
  rcases rest with _ | ⟨r, _ | ⟨s, _ | ⟨t, rest⟩⟩⟩
  · rcases cs with _ | ⟨c0, _ | ⟨c1, _ | ⟨c2, cs⟩⟩⟩ <;> simp at h
    simp [minL, sel, altS]; grind (ringSteps := 1000000)
  · rcases cs with _ | ⟨c0, _ | ⟨c1, _ | ⟨c2, _ | ⟨c3, cs⟩⟩⟩⟩ <;> simp at h
    simp [minL, sel, altS]; grind (ringSteps := 1000000)
  · rcases cs with _ | ⟨c0, _ | ⟨c1, _ | ⟨c2, _ | ⟨c3, _ | ⟨c4, cs⟩⟩⟩⟩⟩ <;> simp at h
    simp [minL, sel, altS]; grind (ringSteps := 1000000)
  · simp at h2
theorem minL_perm (a : Nat → Nat → Int) {rs rs' : List Nat} (h : rs.Perm rs') : ∃ s : Int, (s = 1 ∨ s = -1) ∧ ∀ cs, cs.length = rs.length → rs.length ≤ 4 → minL a rs cs = s * minL a rs' cs := by
  induction h with
  | nil => exact ⟨1, .inl rfl, fun cs _ _ => by simp⟩
  | cons x h ih =>
    obtain ⟨s, hs, ih⟩ := ih
    refine ⟨s, hs, fun cs hc h4 => ?_⟩
    rw [minL, minL, ← altS_mulc]
    refine altS_congr (fun p hp => ?_) 1
    have := sel_len p hp
    rw [ih p.2 (by simp at hc; omega) (by simp at h4; omega)]; grind
  | swap x y l => exact ⟨-1, .inr rfl, fun cs hc h4 => by rw [head_swap a y x l cs (by simpa using hc) (by simp at h4; omega)]; simp⟩
  | trans h1 h2 ih1 ih2 =>
    obtain ⟨s, hs, ih1⟩ := ih1
    obtain ⟨t, ht, ih2⟩ := ih2
    refine ⟨s * t, by rcases hs with rfl | rfl <;> rcases ht with rfl | rfl <;> simp, fun cs hc h4 => ?_⟩
    have hl := h1.length_eq
    rw [ih1 cs hc h4, ih2 cs (by omega) (by omega)]; grind
theorem twice_of {rs : List Nat} (h : ¬ rs.Nodup) : ∃ x rest, rs.Perm (x :: x :: rest) := by
  induction rs with
  | nil => exact absurd List.nodup_nil h
  | cons r t ih =>
    by_cases hm : r ∈ t
    · exact ⟨r, t.erase r, (List.perm_cons_erase hm).cons r⟩
    · have : ¬ t.Nodup := fun hn => h (List.nodup_cons.2 ⟨hm, hn⟩)
      obtain ⟨x, rest, hp⟩ := ih this
      exact ⟨x, r :: rest, (hp.cons r).trans ((List.Perm.swap x r _).trans ((List.Perm.swap x r _).cons x))⟩
theorem minL_twice (a : Nat → Nat → Int) {rs cs : List Nat} (h : ¬ rs.Nodup) (hc : cs.length = rs.length) (h4 : rs.length ≤ 4) : minL a rs cs = 0 := by
  obtain ⟨x, rest, hp⟩ := twice_of h
  obtain ⟨s, hs, h1⟩ := minL_perm a hp
  have hl := hp.length_eq
  simp only [List.length_cons] at hl
  have h2 := head_swap a x x rest cs (by omega) (by omega)
  rw [h1 cs hc h4]
  have : minL a (x :: x :: rest) cs = 0 := by omega
  rw [this]; simp
theorem minL_zcol {a : Nat → Nat → Int} (c : Nat) (rs : List Nat) : ∀ cs, cs.length = rs.length → c ∈ cs → (∀ r ∈ rs, a r c = 0) → minL a rs cs = 0 := by
  induction rs with
  | nil => intro cs h hc; rw [List.length_nil, List.length_eq_zero_iff] at h; subst h; cases hc
  | cons r rs ih =>
    intro cs h hc h0
    rw [minL]
    refine altS_zero _ (fun p hp => ?_) 1
    by_cases e : p.1 = c
    · rw [e, h0 r (by simp)]; simp
    · have := sel_len p hp
      rw [ih p.2 (by simp at h; omega) (sel_keep p hp hc (Ne.symm e)) (fun q hq => h0 q (by simp [hq]))]; simp

/-- What is left inside, divided by the head. -/
def inner (p : Int) (b : Nat → Nat → Int) : Nat → Nat → Int := fun i j => b (i + 1) (j + 1) / p
theorem sel_map (f : Nat → Nat) (cs : List Nat) : sel (cs.map f) = (sel cs).map fun p => (f p.1, p.2.map f) := by
  induction cs with
  | nil => rfl
  | cons c cs ih => simp [sel, ih]
theorem altS_map (f : Nat → Nat) (l : List (Nat × List Nat)) (g : Nat → List Nat → Int) : ∀ s, altS (l.map fun p => (f p.1, p.2.map f)) s g = altS l s fun d ds => g (f d) (ds.map f) := by
  induction l with
  | nil => intro s; rfl
  | cons p l ih => intro s; obtain ⟨d, ds⟩ := p; rw [List.map_cons, altS, altS, ih]
theorem minL_inner {R C : Nat} {p : Int} {b : Nat → Nat → Int} (h : Led R C p b) (rs : List Nat) : ∀ cs, cs.length = rs.length → (∀ r ∈ rs, r + 1 < R) → (∀ c ∈ cs, c + 1 < C) →
    minL b (rs.map (· + 1)) (cs.map (· + 1)) = p ^ rs.length * minL (inner p b) rs cs := by
  induction rs with
  | nil => intro cs _ _ _; simp [minL]
  | cons r rs ih =>
    intro cs hc hr hcC
    rw [List.map_cons, minL, minL, sel_map, altS_map (· + 1), ← altS_mulc]
    refine altS_congr (fun q hq => ?_) 1
    have hm := sel_mem q hq
    have hl := sel_len q hq
    rw [ih q.2 (by simp at hc; omega) (fun x hx => hr x (by simp [hx])) (fun x hx => hcC x (hm.2 x hx))]
    obtain ⟨t, ht⟩ := h.div (r + 1) (q.1 + 1) (hr r (by simp)) (hcC _ hm.1)
    have hi : b (r + 1) (q.1 + 1) = p * inner p b r q.1 := by
      unfold inner
      by_cases h0 : p = 0
      · subst h0; rw [ht]; simp
      · rw [ht, Int.mul_ediv_cancel_left _ h0]
    rw [hi, List.length_cons, Int.pow_succ]
    grind
theorem minL_front {R C : Nat} {p : Int} {b : Nat → Nat → Int} (h : Led R C p b) (rs cs : List Nat) (hcC : ∀ c ∈ cs, 0 < c ∧ c < C) : minL b (0 :: rs) (0 :: cs) = p * minL b rs cs := by
  rw [minL, sel, altS, h.head, altS_zero]
  · simp
  · intro q hq
    obtain ⟨u, hu, rfl⟩ := List.mem_map.1 hq
    have := hcC _ (sel_mem u hu).1
    simp only
    rw [h.row _ this.1 this.2]; simp
theorem unpred {xs : List Nat} (h : 0 ∉ xs) : (xs.map (· - 1)).map (· + 1) = xs := by
  rw [List.map_map]
  have : ∀ x ∈ xs, ((· + 1) ∘ (· - 1)) x = x := fun x hx => by
    have : x ≠ 0 := fun e => h (e ▸ hx)
    simp; omega
  rw [List.map_congr_left this, List.map_id']
theorem red {R C k : Nat} {p D : Int} {b : Nat → Nat → Int} (h : Led R C p b) (hR : 0 < R) (hC : 0 < C) (hk : k + 1 ≤ 4) :
    AllDiv b R C (k + 1) D ↔ ∀ rs cs : List Nat, rs.length = k → cs.length = k → (∀ r ∈ rs, r + 1 < R) → (∀ c ∈ cs, c + 1 < C) → D ∣ p ^ (k + 1) * minL (inner p b) rs cs := by
  constructor
  · intro H rs cs h1 h2 h3 h4
    have := H (0 :: rs.map (· + 1)) (0 :: cs.map (· + 1)) (by simp [h1]) (by simp [h2])
      (by intro r hr; rcases List.mem_cons.1 hr with rfl | hr; exact hR; obtain ⟨q, hq, rfl⟩ := List.mem_map.1 hr; exact h3 q hq)
      (by intro r hr; rcases List.mem_cons.1 hr with rfl | hr; exact hC; obtain ⟨q, hq, rfl⟩ := List.mem_map.1 hr; exact h4 q hq)
    rw [minL_front h _ _ (by intro c hc; obtain ⟨q, hq, rfl⟩ := List.mem_map.1 hc; exact ⟨by omega, h4 q hq⟩), minL_inner h rs cs (by omega) h3 h4, h1] at this
    rw [Int.pow_succ, Int.mul_comm (p ^ k) p, Int.mul_assoc]
    exact this
  · intro H rs cs h1 h2 h3 h4
    by_cases hnd : rs.Nodup
    · by_cases h0r : 0 ∈ rs
      · obtain ⟨s, -, hs⟩ := minL_perm b (List.perm_cons_erase h0r)
        rw [hs cs (by omega) (by omega)]
        refine Int.dvd_mul_of_dvd_right ?_
        rw [minL]
        refine altS_dvd _ (fun q hq => ?_) 1
        have hm := sel_mem q hq
        have hl := sel_len q hq
        have he := List.length_erase_of_mem h0r
        have hz : ∀ r ∈ rs.erase 0, 0 < r ∧ r < R := fun r hr => by
          have : r ≠ 0 := fun e => by subst e; exact hnd.not_mem_erase hr
          exact ⟨by omega, h3 r (List.mem_of_mem_erase hr)⟩
        have h0e : 0 ∉ rs.erase 0 := hnd.not_mem_erase
        by_cases e : q.1 = 0
        · rw [e, h.head]
          by_cases h0q : 0 ∈ q.2
          · rw [minL_zcol 0 _ q.2 (by omega) h0q (fun r hr => h.col r (hz r hr).1 (hz r hr).2)]; simp
          · rw [← unpred h0e, ← unpred h0q, minL_inner h _ _ (by simp; omega) ?_ ?_]
            · have := H ((rs.erase 0).map (· - 1)) (q.2.map (· - 1)) (by simp; omega) (by simp; omega) ?_ ?_
              · rw [List.length_map, he, h1, Nat.add_sub_cancel]
                rw [Int.pow_succ, Int.mul_comm (p ^ k) p, Int.mul_assoc] at this
                exact this
              · intro r hr; obtain ⟨u, hu, rfl⟩ := List.mem_map.1 hr; have := hz u hu; omega
              · intro c hc; obtain ⟨u, hu, rfl⟩ := List.mem_map.1 hc; have := h4 u (hm.2 u hu); have : u ≠ 0 := fun e => h0q (e ▸ hu); omega
            · intro r hr; obtain ⟨u, hu, rfl⟩ := List.mem_map.1 hr; have := hz u hu; omega
            · intro c hc; obtain ⟨u, hu, rfl⟩ := List.mem_map.1 hc; have := h4 u (hm.2 u hu); have : u ≠ 0 := fun e => h0q (e ▸ hu); omega
        · rw [h.row q.1 (by omega) (h4 _ hm.1)]; simp
      · by_cases h0c : 0 ∈ cs
        · rw [minL_zcol 0 rs cs (by omega) h0c (fun r hr => h.col r (by have : r ≠ 0 := fun e => h0r (e ▸ hr); omega) (h3 r hr))]
          exact Int.dvd_zero _
        · have hr' : ∀ r ∈ rs.map (· - 1), r + 1 < R := by
            intro r hr; obtain ⟨u, hu, rfl⟩ := List.mem_map.1 hr; have := h3 u hu; have : u ≠ 0 := fun e => h0r (e ▸ hu); omega
          have hc' : ∀ c ∈ cs.map (· - 1), c + 1 < C := by
            intro c hc; obtain ⟨u, hu, rfl⟩ := List.mem_map.1 hc; have := h4 u hu; have : u ≠ 0 := fun e => h0c (e ▸ hu); omega
          rw [← unpred h0r, ← unpred h0c, minL_inner h _ _ (by simp; omega) hr' hc']
          have l1 : (rs.map (· - 1)).length = k + 1 := by simp [h1]
          have l2 : (cs.map (· - 1)).length = k + 1 := by simp [h2]
          rw [l1]
          generalize rs.map (· - 1) = us at l1 hr' ⊢
          generalize cs.map (· - 1) = vs at l2 hc' ⊢
          rcases us with _ | ⟨q, qs⟩
          · simp at l1
          · rw [minL, ← altS_mulc]
            refine altS_dvd _ (fun t ht => ?_) 1
            have hm := sel_mem t ht
            have hl := sel_len t ht
            have := H qs t.2 (by simpa using l1) (by omega) (fun r hr => hr' r (by simp [hr])) (fun c hc => hc' c (hm.2 c hc))
            have e : p ^ (k + 1) * (inner p b q t.1 * minL (inner p b) qs t.2) = inner p b q t.1 * (p ^ (k + 1) * minL (inner p b) qs t.2) := by grind
            rw [e]
            exact Int.dvd_mul_of_dvd_right this
    · rw [minL_twice b hnd (by omega) (by omega)]
      exact Int.dvd_zero _

theorem gcd_of (P : Int → Prop) : ∃ g : Int, ∀ D, D ∣ g ↔ ∀ x, P x → D ∣ x := by
  have key : ∀ (n : Nat) (g0 : Int), g0 ≠ 0 → g0.natAbs ≤ n → (∀ D, (∀ x, P x → D ∣ x) → D ∣ g0) → ∃ g : Int, ∀ D, D ∣ g ↔ ∀ x, P x → D ∣ x := by
    intro n
    induction n with
    | zero => intro g0 h0 h; omega
    | succ n ih =>
      intro g0 h0 hn hg
      by_cases hall : ∀ x, P x → g0 ∣ x
      · exact ⟨g0, fun D => ⟨fun h x hx => Int.dvd_trans h (hall x hx), hg D⟩⟩
      · obtain ⟨x, hx⟩ := Classical.not_forall.1 hall
        obtain ⟨hP, hd⟩ := Classical.not_imp.1 hx
        have h1 : Int.gcd g0 x ≠ 0 := fun e => h0 (Int.gcd_eq_zero_iff.1 e).1
        have h2 : Int.gcd g0 x ∣ g0.natAbs := Nat.gcd_dvd_left _ _
        have h3 := Nat.le_of_dvd (by omega) h2
        have h4 : Int.gcd g0 x ≠ g0.natAbs := fun e => hd (by
          have : Int.gcd g0 x ∣ x.natAbs := Nat.gcd_dvd_right _ _
          rw [e] at this
          exact Int.natAbs_dvd_natAbs.1 this)
        refine ih (Int.gcd g0 x : Nat) (by omega) (by simp; omega) (fun D hD => ?_)
        have d1 := Int.natAbs_dvd_natAbs.2 (hg D hD)
        have d2 := Int.natAbs_dvd_natAbs.2 (hD x hP)
        have : D.natAbs ∣ Int.gcd g0 x := Nat.dvd_gcd d1 d2
        exact Int.natAbs_dvd_natAbs.1 (by simpa using this)
  by_cases h : ∀ x, P x → x = 0
  · exact ⟨0, fun D => ⟨fun _ x hx => by rw [h x hx]; exact Int.dvd_zero _, fun _ => Int.dvd_zero _⟩⟩
  · obtain ⟨x, hx⟩ := Classical.not_forall.1 h
    obtain ⟨hP, h0⟩ := Classical.not_imp.1 hx
    exact key _ x h0 (Nat.le_refl _) (fun D hD => hD x hP)

theorem chain (k : Nat) : k + 2 ≤ 4 → ∀ (R C : Nat) (a : Nat → Nat → Int) (g : Nat → Int), (∀ j, j ≤ k + 2 → ∀ D, D ∣ g j ↔ AllDiv a R C j D) → g (k + 1) * g (k + 1) ∣ g (k + 2) * g k := by
  induction k with
  | zero =>
    intro _ R C a g hg
    refine Int.dvd_trans ?_ (Int.dvd_mul_right (g 2) (g 0))
    have h1 := (hg 1 (by omega) (g 1)).1 (Int.dvd_refl _)
    have e : ∀ r c, r < R → c < C → g 1 ∣ a r c := fun r c hr hc => by
      have := h1 [r] [c] rfl rfl (by simpa using hr) (by simpa using hc)
      simpa [minL, sel, altS] using this
    refine (hg 2 (by omega) _).2 fun rs cs l1 l2 h3 h4 => ?_
    rcases rs with _ | ⟨r0, _ | ⟨r1, _ | ⟨r2, rs⟩⟩⟩ <;> simp at l1
    rcases cs with _ | ⟨c0, _ | ⟨c1, _ | ⟨c2, cs⟩⟩⟩ <;> simp at l2
    have m1 := e r0 c0 (h3 r0 (by simp)) (h4 c0 (by simp)); have m2 := e r0 c1 (h3 r0 (by simp)) (h4 c1 (by simp))
    have m3 := e r1 c0 (h3 r1 (by simp)) (h4 c0 (by simp)); have m4 := e r1 c1 (h3 r1 (by simp)) (h4 c1 (by simp))
    simp only [minL, sel, altS, List.map_cons, List.map_nil]
    obtain ⟨x1, e1⟩ := m1; obtain ⟨x2, e2⟩ := m2; obtain ⟨x3, e3⟩ := m3; obtain ⟨x4, e4⟩ := m4
    exact ⟨x1 * x4 - x2 * x3, by rw [e1, e2, e3, e4]; grind⟩
  | succ k ih =>
    intro hk R C a g hg
    by_cases hne : ∃ i j, i < R ∧ j < C ∧ a i j ≠ 0
    · obtain ⟨i, j, hi, hj, _⟩ := id hne
      have hR : 0 < R := by omega
      have hC : 0 < C := by omega
      obtain ⟨p, b, hp, hs, hb⟩ := led a hne
      have hh : ∀ j, ∃ h : Int, ∀ D, D ∣ h ↔ AllDiv (inner p b) (R - 1) (C - 1) j D := by
        intro j
        obtain ⟨h, hh⟩ := gcd_of (fun x => ∃ rs cs : List Nat, rs.length = j ∧ cs.length = j ∧ (∀ r ∈ rs, r < R - 1) ∧ (∀ c ∈ cs, c < C - 1) ∧ x = minL (inner p b) rs cs)
        refine ⟨h, fun D => (hh D).trans ⟨fun H rs cs h1 h2 h3 h4 => H _ ⟨rs, cs, h1, h2, h3, h4, rfl⟩, fun H x hx => ?_⟩⟩
        obtain ⟨rs, cs, h1, h2, h3, h4, rfl⟩ := hx
        exact H rs cs h1 h2 h3 h4
      obtain ⟨h, hh⟩ := Classical.axiomOfChoice hh
      have lo : ∀ j, j ≤ k + 2 → p ^ (j + 1) * h j ∣ g (j + 1) := by
        intro j hj
        refine (hg (j + 1) (by omega) _).2 ((hs (j + 1) _ (by omega)).2 ((red hb hR hC (by omega)).2 fun rs cs h1 h2 h3 h4 => ?_))
        exact Int.mul_dvd_mul_left _ ((hh j (h j)).1 (Int.dvd_refl _) rs cs h1 h2 (fun r hr => by have := h3 r hr; omega) (fun c hc => by have := h4 c hc; omega))
      have hi : ∀ j, j ≤ k + 2 → g (j + 1) ∣ p ^ (j + 1) * h j := by
        intro j hj
        have h1 := (red hb hR hC (k := j) (by omega)).1 ((hs (j + 1) _ (by omega)).1 ((hg (j + 1) (by omega) (g (j + 1))).1 (Int.dvd_refl _)))
        obtain ⟨t, ht⟩ := Int.dvd_trans (Int.dvd_mul_right (p ^ (j + 1)) (h j)) (lo j hj)
        have hpj : p ^ (j + 1) ≠ 0 := Int.pow_ne_zero hp
        rw [ht] at h1 ⊢
        refine Int.mul_dvd_mul_left _ ((hh j t).2 fun rs cs l1 l2 l3 l4 => ?_)
        have := h1 rs cs l1 l2 (fun r hr => by have := l3 r hr; omega) (fun c hc => by have := l4 c hc; omega)
        exact Int.dvd_of_mul_dvd_mul_left hpj this
      have hc := ih (by omega) (R - 1) (C - 1) (inner p b) h (fun j _ => hh j)
      have u1 := Int.mul_dvd_mul (hi (k + 1) (by omega)) (hi (k + 1) (by omega))
      have u2 := Int.mul_dvd_mul (lo (k + 2) (by omega)) (lo k (by omega))
      refine Int.dvd_trans u1 (Int.dvd_trans ?_ u2)
      obtain ⟨t, ht⟩ := hc
      refine ⟨t, ?_⟩
      have e1 : p ^ (k + 2 + 1) * h (k + 2) * (p ^ (k + 1) * h k) = p ^ (k + 2 + 1) * p ^ (k + 1) * (h (k + 2) * h k) := by grind
      rw [e1, ht]
      have e2 : p ^ (k + 2 + 1) * p ^ (k + 1) = p ^ (k + 1 + 1) * p ^ (k + 1 + 1) := by rw [← Int.pow_add, ← Int.pow_add]; congr 1; omega
      rw [e2]; grind
    · have h0 : (0 : Int) ∣ g (k + 1 + 2) := by
        refine (hg (k + 1 + 2) (by omega) 0).2 fun rs cs l1 l2 h3 h4 => ?_
        rcases rs with _ | ⟨r, rs⟩
        · simp at l1
        · rw [minL, altS_zero]
          · exact Int.dvd_refl _
          · intro q hq
            have : a r q.1 = 0 := Classical.byContradiction fun e => hne ⟨r, q.1, h3 r (by simp), h4 _ (sel_mem q hq).1, e⟩
            rw [this]; simp
      rw [Int.zero_dvd.1 h0]; simp

end Go.Proofs.Ytdmogoeafjpphaa

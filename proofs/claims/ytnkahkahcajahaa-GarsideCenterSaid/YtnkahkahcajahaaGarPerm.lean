/- Permutations and their crossings: neighbours exchanged as places or as values; inversions. No program. -/
import Derived.Test.YtnkahkahcajahaaRingLaw
import Derived.Test.YtnkahkahcajahaaRankLaw
namespace Go.Proofs.Ytnkahkahcajahaa
open Go.RowKit Go.Sl

/-- The values i and i + 1 exchanged. -/
def swV (i : Nat) (x : Int) : Int := if x = i then (i : Int) + 1 else if x = (i : Int) + 1 then i else x
def swapV (a : List Int) (i : Nat) : List Int := a.map (swV i)
theorem swapV_length (a : List Int) (i : Nat) : (swapV a i).length = a.length := by simp [swapV]
theorem swV_swV (i : Nat) (x : Int) : swV i (swV i x) = x := by unfold swV; grind
theorem swapV_swapV (a : List Int) (i : Nat) : swapV (swapV a i) i = a := by
  unfold swapV
  have h : ∀ x ∈ a, (swV i ∘ swV i) x = x := fun x _ => swV_swV i x
  rw [List.map_map, List.map_congr_left h, List.map_id']
theorem nth_swapV (a : List Int) (i q : Nat) (h : q < a.length) : nth (swapV a i) q = swV i (nth a q) := nth_map _ a q h
/-- The place exchanged. -/
def swN (i q : Nat) : Nat := if q = i then i + 1 else if q = i + 1 then i else q
theorem swN_lt {i q n : Nat} (hi : i + 1 < n) (hq : q < n) : swN i q < n := by unfold swN; grind
theorem nth_swapAt' (l : List Int) (i j : Nat) (h : i + 1 < l.length) : nth (swapAt l i) j = nth l (swN i j) := by
  rw [nth_swapAt l i j h]
  unfold swN
  by_cases h1 : j = i
  · subst h1; rw [if_neg (by omega), if_pos rfl, if_pos rfl]
  · by_cases h2 : j = i + 1
    · rw [if_pos h2, if_neg h1, if_pos h2]
    · rw [if_neg h2, if_neg h1, if_neg h1, if_neg h2]
theorem swapAt_swapAt (l : List Int) (i : Nat) (h : i + 1 < l.length) : swapAt (swapAt l i) i = l := by
  refine ext_nth (by simp [swapAt_length]) fun k _ => ?_
  rw [nth_swapAt' _ _ _ (by rw [swapAt_length]; exact h), nth_swapAt' _ _ _ h]
  congr 1
  unfold swN; grind

/-- A permutation of degree n. -/
structure Pn (n : Nat) (a : List Int) : Prop where
  perm : IsPerm a
  len : a.length = n
theorem Pn.range {n : Nat} {a : List Int} (h : Pn n a) {q : Nat} (hq : q < n) : 0 ≤ nth a q ∧ nth a q < n := by
  have := h.perm.range _ (nth_mem (xs := a) (k := q) (by rw [h.len]; exact hq))
  rw [h.len] at this; exact this
theorem pn_iota {n : Nat} (h : n ≤ 1000) : Pn n (iota n) := ⟨isPerm_iota h, iota_length n⟩
theorem Pn.back {n : Nat} {a : List Int} (h : Pn n a) : Pn n (backL a) := ⟨h.perm.back, by rw [backL_length, h.len]⟩
theorem Pn.then {n : Nat} {a b : List Int} (h : Pn n a) (k : Pn n b) : Pn n (thenL a b) := ⟨h.perm.then k.perm (by rw [h.len, k.len]), by rw [thenL_length, h.len]⟩
theorem swapV_iota {n i : Nat} (h : i + 1 < n) : swapV (iota n) i = swapAt (iota n) i := by
  refine ext_nth (by rw [swapV_length, swapAt_length]) fun k hk => ?_
  rw [swapV_length, iota_length] at hk
  rw [nth_swapV _ _ _ (by rw [iota_length]; exact hk), nth_swapAt' _ _ _ (by rw [iota_length]; exact h), nth_iota _ _ hk, nth_iota _ _ (swN_lt h hk)]
  unfold swV swN; grind
theorem Pn.swapAt {n : Nat} {a : List Int} (h : Pn n a) {i : Nat} (hi : i + 1 < n) : Pn n (Go.Proofs.Ytnkahkahcajahaa.swapAt a i) := by
  have hl := swapAt_length a i
  refine ⟨⟨?_, by rw [hl]; exact h.perm.small⟩, by rw [hl, h.len]⟩
  rw [hl]
  exact (swapAt_perm a i (by rw [h.len]; exact hi)).trans h.perm.perm
theorem Pn.swapV {n : Nat} {a : List Int} (h : Pn n a) {i : Nat} (hi : i + 1 < n) : Pn n (Go.Proofs.Ytnkahkahcajahaa.swapV a i) := by
  have hl := swapV_length a i
  refine ⟨⟨?_, by rw [hl]; exact h.perm.small⟩, by rw [hl, h.len]⟩
  rw [hl, h.len]
  have h1 : (Go.Proofs.Ytnkahkahcajahaa.swapV a i).Perm (Go.Proofs.Ytnkahkahcajahaa.swapV (iota n) i) := by have := h.perm.perm; rw [h.len] at this; exact this.map _
  rw [swapV_iota hi] at h1
  exact h1.trans (swapAt_perm _ i (by rw [iota_length]; exact hi))

/-- Where a value stands. -/
theorem back_at {n : Nat} {a : List Int} (h : Pn n a) {q : Nat} (hq : q < n) : nth (backL a) (nth a q).toNat = q := backTo_hit h.perm _ (Nat.le_refl _) q (by rw [h.len]; exact hq)
theorem hit {n : Nat} {a : List Int} (h : Pn n a) {x : Nat} (hx : x < n) : ∃ q, q < n ∧ nth a q = x ∧ nth (backL a) x = q := by
  obtain ⟨q, hq, e⟩ := h.perm.hit (k := x) (by rw [h.len]; exact hx)
  rw [h.len] at hq
  have := back_at h hq
  rw [e, Int.toNat_natCast] at this
  exact ⟨q, hq, e, this⟩
theorem back_swapV {n : Nat} {a : List Int} (h : Pn n a) {i : Nat} (hi : i + 1 < n) : backL (swapV a i) = swapAt (backL a) i := by
  refine ext_nth (by rw [backL_length, swapV_length, swapAt_length, backL_length]) fun x hx => ?_
  rw [backL_length, swapV_length, h.len] at hx
  obtain ⟨q, hq, e, e2⟩ := hit (h.swapV hi) hx
  rw [nth_swapV _ _ _ (by rw [h.len]; exact hq)] at e
  rw [e2, nth_swapAt' _ _ _ (by rw [backL_length, h.len]; exact hi)]
  have e3 : nth a q = ((swN i x : Nat) : Int) := by
    have := congrArg (swV i) e
    rw [swV_swV] at this
    rw [this]
    unfold swV swN; grind
  have := back_at h hq
  rw [e3, Int.toNat_natCast] at this
  exact this.symm
theorem back_back {n : Nat} {a : List Int} (h : Pn n a) : backL (backL a) = a := by
  refine ext_nth (by simp [backL_length]) fun x hx => ?_
  rw [backL_length, backL_length, h.len] at hx
  obtain ⟨q, hq, e, e2⟩ := hit h.back hx
  rw [e2]
  have hr := h.range hx
  obtain ⟨y, hy⟩ : ∃ y : Nat, nth a x = y := ⟨(nth a x).toNat, by omega⟩
  have h3 := back_at h hx
  rw [hy, Int.toNat_natCast] at h3
  have : q = y := by
    have hyn : y < n := by omega
    exact h.back.perm.inj (by rw [backL_length, h.len]; exact hq) (by rw [backL_length, h.len]; exact hyn) (by rw [e, h3])
  rw [hy, this]
theorem back_swapAt {n : Nat} {b : List Int} (h : Pn n b) {i : Nat} (hi : i + 1 < n) : backL (swapAt b i) = swapV (backL b) i := by
  have h1 := back_swapV h.back hi
  rw [back_back h] at h1
  rw [← h1, back_back (h.back.swapV hi)]
theorem swap_comm {n : Nat} {a : List Int} (h : Pn n a) {i : Nat} (hi : i + 1 < n) (j : Nat) : swapAt (swapV a j) i = swapV (swapAt a i) j := swapAt_map (swV j) a i (by rw [h.len]; exact hi)

/-- The crossing i can be taken away at the beginning; it can be added at the end. -/
def dn (b : List Int) (i : Nat) : Prop := nth b (i + 1) < nth b i
def up (a : List Int) (i : Nat) : Prop := nth (backL a) i < nth (backL a) (i + 1)
theorem dn_or {n : Nat} {b : List Int} (h : Pn n b) {i : Nat} (hi : i + 1 < n) : dn b i ∨ nth b i < nth b (i + 1) := by
  unfold dn
  rcases Int.lt_trichotomy (nth b i) (nth b (i + 1)) with h1 | h1 | h1
  · exact .inr h1
  · have := h.perm.inj (by rw [h.len]; omega) (by rw [h.len]; exact hi) h1; omega
  · exact .inl h1

/-! Inversions. -/
def inv : List Int → Nat
  | [] => 0
  | x :: t => less t x + inv t
theorem less_cons (t : List Int) (x y : Int) : less (y :: t) x = (if y < x then 1 else 0) + less t x := by
  unfold less
  rw [List.filter_cons]
  by_cases h : y < x
  · simp [h]; omega
  · simp [h]
theorem inv_swapAt (l : List Int) : ∀ i, i + 1 < l.length → nth l (i + 1) < nth l i → inv (swapAt l i) + 1 = inv l := by
  induction l with
  | nil => intro i h; simp at h
  | cons a l ih =>
    intro i h hd
    cases i with
    | zero =>
      cases l with
      | nil => simp at h
      | cons b t =>
        have hb : b < a := by simpa [nth] using hd
        have e : swapAt (a :: b :: t) 0 = b :: a :: t := by simp [swapAt, nth]
        rw [e, inv, inv, inv, inv, less_cons, less_cons, if_pos hb, if_neg (by omega)]
        omega
    | succ i =>
      have hi : i + 1 < l.length := by simpa using h
      rw [swapAt_cons, inv, inv, less_perm (swapAt_perm l i hi) a]
      have := ih i hi (by simpa [nth] using hd)
      omega
theorem inv_dn {n : Nat} {b : List Int} (h : Pn n b) {i : Nat} (hi : i + 1 < n) (hd : dn b i) : inv (swapAt b i) + 1 = inv b := inv_swapAt b i (by rw [h.len]; exact hi) hd

/-- The values i and i + 1 are not both there: their exchange turns no order. -/
theorem less_swV {i : Nat} (t : List Int) (x : Int) (h : ∀ y ∈ t, (swV i y < swV i x ↔ y < x)) : less (t.map (swV i)) (swV i x) = less t x := by
  induction t with
  | nil => rfl
  | cons y t ih =>
    rw [List.map_cons, less_cons, less_cons, ih (fun z hz => h z (by simp [hz]))]
    have := h y (by simp)
    by_cases hy : y < x
    · rw [if_pos hy, if_pos (this.2 hy)]
    · rw [if_neg hy, if_neg (fun e => hy (this.1 e))]
theorem swV_lt {i : Nat} {x y : Int} (h : ¬ (x = i ∧ y = (i : Int) + 1)) (k : ¬ (x = (i : Int) + 1 ∧ y = i)) : swV i y < swV i x ↔ y < x := by unfold swV; grind
theorem inv_none {i : Nat} (t : List Int) : ((i : Int) ∉ t ∨ (i : Int) + 1 ∉ t) → inv (t.map (swV i)) = inv t := by
  induction t with
  | nil => intro _; rfl
  | cons x t ih =>
    intro h
    have h' : (i : Int) ∉ t ∨ (i : Int) + 1 ∉ t := by
      rcases h with h | h
      · exact .inl (fun m => h (by simp [m]))
      · exact .inr (fun m => h (by simp [m]))
    rw [List.map_cons, inv, inv, ih h', less_swV]
    intro y hy
    refine swV_lt (fun e => ?_) (fun e => ?_)
    · rcases h with h | h
      · exact h (by simp [e.1])
      · exact h (by rw [← e.2]; simp [hy])
    · rcases h with h | h
      · exact h (by rw [← e.2]; simp [hy])
      · exact h (by simp [e.1])
theorem less_one {i : Nat} (v : List Int) : v.Nodup → (i : Int) ∉ v → (i : Int) + 1 ∈ v → less (v.map (swV i)) ((i : Int) + 1) = less v i + 1 := by
  induction v with
  | nil => intro _ _ h; cases h
  | cons y v ih =>
    intro hn hi hm
    have hn' := List.nodup_cons.1 hn
    have hiv : (i : Int) ∉ v := fun h => hi (by simp [h])
    have hyi : y ≠ i := fun h => hi (by simp [h])
    rw [List.map_cons, less_cons, less_cons]
    by_cases e : y = (i : Int) + 1
    · have hnv : (i : Int) + 1 ∉ v := by rw [← e]; exact hn'.1
      have h1 : less (v.map (swV i)) ((i : Int) + 1) = less v i := by
        have h2 : v.map (swV i) = v := by
          have : ∀ z ∈ v, swV i z = z := fun z hz => by
            have z1 : z ≠ i := fun e => hiv (e ▸ hz)
            have z2 : z ≠ (i : Int) + 1 := fun e => hnv (e ▸ hz)
            unfold swV; rw [if_neg z1, if_neg z2]
          rw [List.map_congr_left this, List.map_id']
        rw [h2]
        have : ∀ (l : List Int), (i : Int) ∉ l → less l ((i : Int) + 1) = less l i := by
          intro l
          induction l with
          | nil => intro _; rfl
          | cons z l ihl =>
            intro hz
            have z1 : z ≠ i := fun e => hz (by simp [e])
            rw [less_cons, less_cons, ihl (fun h => hz (by simp [h]))]
            by_cases hl : z < i
            · rw [if_pos hl, if_pos (by omega)]
            · rw [if_neg hl, if_neg (by omega)]
        exact this v hiv
      rw [h1, e, if_neg (by omega : ¬ (i : Int) + 1 < i)]
      have : swV i ((i : Int) + 1) = i := by unfold swV; rw [if_neg (by omega), if_pos rfl]
      rw [this, if_pos (by omega)]; omega
    · have hmv : (i : Int) + 1 ∈ v := by
        rcases List.mem_cons.1 hm with h | h
        · exact absurd h.symm e
        · exact h
      rw [ih hn'.2 hiv hmv]
      have : swV i y = y := by unfold swV; rw [if_neg hyi, if_neg e]
      rw [this]
      by_cases hl : y < i
      · rw [if_pos hl, if_pos (by omega)]; omega
      · rw [if_neg hl, if_neg (by omega)]; omega
theorem inv_before {i : Nat} (u v : List Int) : (u ++ (i : Int) :: v).Nodup → (i : Int) + 1 ∈ v → inv ((u ++ (i : Int) :: v).map (swV i)) = inv (u ++ (i : Int) :: v) + 1 := by
  induction u with
  | nil =>
    intro hn hm
    have hn' := List.nodup_cons.1 hn
    rw [List.nil_append, List.map_cons, inv, inv, inv_none v (.inl hn'.1)]
    have : swV i (i : Int) = (i : Int) + 1 := by unfold swV; rw [if_pos rfl]
    rw [this, less_one v hn'.2 hn'.1 hm]; omega
  | cons x u ih =>
    intro hn hm
    rw [List.cons_append] at hn ⊢
    have hn' := List.nodup_cons.1 hn
    have hx1 : x ≠ i := fun e => hn'.1 (by simp [e])
    have hx2 : x ≠ (i : Int) + 1 := fun e => hn'.1 (by rw [e]; simp [hm])
    rw [List.map_cons, inv, inv, ih hn'.2 hm, less_swV]
    · omega
    · intro y _
      exact swV_lt (fun e => hx1 e.1) (fun e => hx2 e.1)
theorem inv_up {n : Nat} {a : List Int} (h : Pn n a) {i : Nat} (hi : i + 1 < n) (hu : up a i) : inv (swapV a i) = inv a + 1 := by
  obtain ⟨p, hp, e1, e2⟩ := hit h (x := i) (by omega)
  obtain ⟨q, hq, e3, e4⟩ := hit h (x := i + 1) hi
  unfold up at hu
  rw [e2, e4] at hu
  have hpq : p < q := by omega
  have hpl : p < a.length := by rw [h.len]; exact hp
  have hd : a = a.take p ++ (i : Int) :: a.drop (p + 1) := by
    conv => lhs; rw [← List.take_append_drop p a, List.drop_eq_getElem_cons hpl, ← nth_lt hpl, e1]
  have hm : (i : Int) + 1 ∈ a.drop (p + 1) := by
    rw [show (i : Int) + 1 = ((i + 1 : Nat) : Int) by omega, ← e3, nth_lt (by rw [h.len]; exact hq)]
    rw [List.mem_iff_getElem]
    exact ⟨q - (p + 1), by rw [List.length_drop, h.len]; omega, by rw [List.getElem_drop]; congr 1; omega⟩
  have hn := h.perm.nodup
  unfold swapV
  rw [hd] at hn ⊢
  exact inv_before _ _ hn hm
theorem up_or {n : Nat} {a : List Int} (h : Pn n a) {i : Nat} (hi : i + 1 < n) : up a i ∨ dn (backL a) i := by
  rcases dn_or h.back hi with h1 | h1
  · exact .inr h1
  · exact .inl h1
theorem up_swapV {n : Nat} {a : List Int} (h : Pn n a) {i : Nat} (hi : i + 1 < n) (hd : dn (backL a) i) : up (swapV a i) i := by
  unfold up
  have hl : i + 1 < (backL a).length := by rw [backL_length, h.len]; exact hi
  rw [back_swapV h hi, nth_swapAt' _ _ _ hl, nth_swapAt' _ _ _ hl]
  unfold swN; unfold dn at hd
  simpa using hd
theorem inv_down {n : Nat} {a : List Int} (h : Pn n a) {i : Nat} (hi : i + 1 < n) (hd : dn (backL a) i) : inv (swapV a i) + 1 = inv a := by
  have := inv_up (h.swapV hi) hi (up_swapV h hi hd)
  rw [swapV_swapV] at this
  exact this.symm

/-- Without inversions: the identity. -/
theorem iota_of {n : Nat} {a : List Int} (h : Pn n a) (hu : ∀ i, i + 1 < n → up a i) : a = iota n := by
  have hc : ∀ i, i < n → nth (backL a) i = i := by
    have hr := fun i (hi : i < n) => h.back.range hi
    have hlo : ∀ i, i < n → (i : Int) ≤ nth (backL a) i := by
      intro i
      induction i with
      | zero => intro hi; exact (hr 0 hi).1
      | succ i ih =>
        intro hi
        have h1 := ih (by omega)
        have h2 : nth (backL a) i < nth (backL a) (i + 1) := hu i hi
        omega
    have hhi : ∀ k i, i + k + 1 = n → nth (backL a) i ≤ (i : Int) := by
      intro k
      induction k with
      | zero => intro i hi; have := (hr i (by omega)).2; omega
      | succ k ih =>
        intro i hi
        have h1 := ih (i + 1) (by omega)
        have h2 : nth (backL a) i < nth (backL a) (i + 1) := hu i (by omega)
        omega
    intro i hi
    have h1 := hlo i hi
    have h2 := hhi (n - i - 1) i (by omega)
    omega
  refine ext_nth (by rw [h.len, iota_length]) fun q hq => ?_
  rw [h.len] at hq
  have hr := h.range hq
  have h1 := back_at h hq
  rw [hc _ (by omega)] at h1
  rw [nth_iota _ _ hq]; omega
/-- Every permutation is made from the identity by adding crossings. -/
theorem permInd {n : Nat} (hn : n ≤ 1000) {P : List Int → Prop} (h0 : P (iota n)) (h1 : ∀ f j, Pn n f → j + 1 < n → up f j → P f → P (swapV f j)) : ∀ f, Pn n f → P f := by
  have : ∀ m f, inv f ≤ m → Pn n f → P f := by
    intro m
    induction m with
    | zero =>
      intro f hf hp
      have : ∀ i, i + 1 < n → up f i := fun i hi => by
        rcases up_or hp hi with h | h
        · exact h
        · have := inv_down hp hi h; omega
      rw [iota_of hp this]; exact h0
    | succ m ih =>
      intro f hf hp
      by_cases hall : ∀ i, i + 1 < n → up f i
      · rw [iota_of hp hall]; exact h0
      · obtain ⟨i, hi⟩ := Classical.not_forall.1 hall
        obtain ⟨hi, hu⟩ := Classical.not_imp.1 hi
        have hd := (up_or hp hi).resolve_left hu
        have h2 := inv_down hp hi hd
        have h3 := h1 (swapV f i) i (hp.swapV hi) hi (up_swapV hp hi hd) (ih _ (by omega) (hp.swapV hi))
        rwa [swapV_swapV] at h3
  exact fun f hf => this _ f (Nat.le_refl _) hf

end Go.Proofs.Ytnkahkahcajahaa

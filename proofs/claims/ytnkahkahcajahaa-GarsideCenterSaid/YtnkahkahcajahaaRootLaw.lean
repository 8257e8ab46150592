/- Cyclic reduction, powers and roots of reduced words: plain law. -/
import Derived.Test.YtnkahkahcajahaaFreeLaw
namespace Go.Proofs.Ytnkahkahcajahaa
open Go.RowKit Go.Sl

theorem rd_iff (l : List Int) : Rd l ↔ ∀ i, i + 1 < l.length → nth l (i + 1) ≠ -(nth l i) := by
  induction l with
  | nil => exact ⟨fun _ i h => by simp at h, fun _ => trivial⟩
  | cons x t ih =>
    cases t with
    | nil => exact ⟨fun _ i h => by simp at h, fun _ => trivial⟩
    | cons y t =>
      constructor
      · rintro ⟨h1, h2⟩ i hi
        cases i with
        | zero => simpa [nth] using h1
        | succ i =>
          have := ih.1 h2 i (by simpa using hi)
          simpa [nth] using this
      · intro h
        refine ⟨by simpa [nth] using h 0 (by simp), ih.2 fun i hi => ?_⟩
        have := h (i + 1) (by simpa using hi)
        simpa [nth] using this
theorem nth_reverse' {l : List Int} {i : Nat} (h : i < l.length) : nth l.reverse i = nth l (l.length - 1 - i) := by
  rw [nth_lt (by simpa using h), nth_lt (by omega), List.getElem_reverse]
theorem rd_reverse {l : List Int} (h : Rd l) : Rd l.reverse := by
  rw [rd_iff] at h ⊢
  intro i hi
  rw [List.length_reverse] at hi
  rw [nth_reverse' hi, nth_reverse' (by omega)]
  have := h (l.length - 1 - (i + 1)) (by omega)
  rw [show l.length - 1 - (i + 1) + 1 = l.length - 1 - i by omega] at this
  omega
theorem redL_rd (xs : List Int) : Rd (redL xs) := rd_reverse (act_rd rd_nil xs)
theorem rd_mid {a b : List Int} {y x : Int} (h : Rd (a ++ y :: x :: b)) : x ≠ -y := by
  induction a with
  | nil => exact h.1
  | cons z a ih => exact ih (Rd.tail h)
theorem act_rd_append (l : List Int) : ∀ s, Rd (s.reverse ++ l) → act s l = l.reverse ++ s := by
  induction l with
  | nil => intro s _; rfl
  | cons x l ih =>
    intro s h
    have hp : psh s x = x :: s := by
      cases s with
      | nil => rfl
      | cons y t =>
        rw [psh, if_neg]
        intro e
        rw [List.reverse_cons, List.append_assoc] at h
        exact rd_mid h (by omega)
    show act (psh s x) l = _
    rw [hp, ih (x :: s) (by rw [List.reverse_cons, List.append_assoc]; exact h)]
    simp
theorem redL_of_rd {l : List Int} (h : Rd l) : redL l = l := by
  rw [redL, act_rd_append l [] (by simpa using h)]; simp
theorem nth_append (a b : List Int) (i : Nat) : nth (a ++ b) i = if i < a.length then nth a i else nth b (i - a.length) := by
  unfold nth
  split
  · rename_i h; simp [List.getElem?_append, h]
  · rename_i h; simp [List.getElem?_append, h]
theorem rd_append {a b : List Int} (ha : a ≠ []) (hb : b ≠ []) : Rd (a ++ b) ↔ Rd a ∧ Rd b ∧ nth b 0 ≠ -(nth a (a.length - 1)) := by
  have la := List.length_pos_iff.2 ha
  have lb := List.length_pos_iff.2 hb
  rw [rd_iff, rd_iff, rd_iff]
  constructor
  · intro h
    refine ⟨fun i hi => ?_, fun i hi => ?_, ?_⟩
    · have := h i (by rw [List.length_append]; omega)
      rwa [nth_append, if_pos hi, nth_append, if_pos (by omega)] at this
    · have := h (a.length + i) (by rw [List.length_append]; omega)
      rwa [nth_append, if_neg (by omega), nth_append, if_neg (by omega), show a.length + i + 1 - a.length = i + 1 by omega, show a.length + i - a.length = i by omega] at this
    · have := h (a.length - 1) (by rw [List.length_append]; omega)
      rwa [nth_append, if_neg (by omega), nth_append, if_pos (by omega), show a.length - 1 + 1 - a.length = 0 by omega] at this
  · rintro ⟨h1, h2, h3⟩ i hi
    rw [List.length_append] at hi
    rw [nth_append, nth_append]
    rcases Nat.lt_trichotomy (i + 1) a.length with h | h | h
    · rw [if_pos h, if_pos (by omega)]; exact h1 i h
    · rw [if_neg (by omega), if_pos (by omega), show i + 1 - a.length = 0 by omega, show i = a.length - 1 by omega]; exact h3
    · rw [if_neg (by omega), if_neg (by omega), show i + 1 - a.length = (i - a.length) + 1 by omega]; exact h2 _ (by omega)

/-- How many letters go off both ends. -/
def stripGo (c : List Int) : Nat → Nat → Nat
  | 0, n => n
  | f + 1, n => if 2 * n + 2 ≤ c.length ∧ nth c n = -(nth c (c.length - 1 - n)) then stripGo c f (n + 1) else n
def stripN (c : List Int) : Nat := stripGo c c.length 0
def headL (c : List Int) : List Int := c.take (stripN c)
def coreL (c : List Int) : List Int := (c.drop (stripN c)).take (c.length - stripN c - stripN c)
structure Strip (c : List Int) (n : Nat) : Prop where
  le : 2 * n ≤ c.length
  off : ∀ i, i < n → nth c i = -(nth c (c.length - 1 - i))
  stop : c.length < 2 * n + 2 ∨ nth c n ≠ -(nth c (c.length - 1 - n))
theorem stripGo_spec (c : List Int) (f : Nat) : ∀ n, 2 * n ≤ c.length → (∀ i, i < n → nth c i = -(nth c (c.length - 1 - i))) → c.length ≤ 2 * n + 2 * f → Strip c (stripGo c f n) := by
  induction f with
  | zero => intro n h1 h2 h3; exact ⟨h1, h2, .inl (by simp only [stripGo]; omega)⟩
  | succ f ih =>
    intro n h1 h2 h3
    rw [stripGo]
    split
    · rename_i h
      refine ih (n + 1) (by omega) (fun i hi => ?_) (by omega)
      rcases Nat.lt_or_ge i n with h4 | h4
      · exact h2 i h4
      · rw [show i = n by omega]; exact h.2
    · rename_i h
      refine ⟨h1, h2, ?_⟩
      rcases Nat.lt_or_ge c.length (2 * n + 2) with h4 | h4
      · exact .inl h4
      · exact .inr fun e => h ⟨h4, e⟩
theorem strip_spec (c : List Int) : Strip c (stripN c) := stripGo_spec c c.length 0 (by omega) (fun i hi => by omega) (by omega)
theorem Strip.unique {c : List Int} {m n : Nat} (h : Strip c m) (k : Strip c n) : m = n := by
  rcases Nat.lt_trichotomy m n with hh | hh | hh
  · have h1 := k.le
    rcases h.stop with h2 | h2
    · omega
    · exact absurd (k.off m hh) h2
  · exact hh
  · have h1 := h.le
    rcases k.stop with h2 | h2
    · omega
    · exact absurd (h.off n hh) h2
theorem nth_take' {l : List Int} {k i : Nat} (h : i < k) : nth (l.take k) i = nth l i := by simp [nth, List.getElem?_take, h]
theorem nth_drop' (l : List Int) (k i : Nat) : nth (l.drop k) i = nth l (k + i) := by simp [nth]
theorem invL_length' (xs : List Int) : (invL xs).length = xs.length := by simp [invL]
theorem nth_invL {xs : List Int} {i : Nat} (h : i < xs.length) : nth (invL xs) i = -(nth xs (xs.length - 1 - i)) := by
  unfold invL
  rw [nth_reverse' (by simpa using h)]
  rw [List.length_map, nth_lt (by rw [List.length_map]; omega), nth_lt (by omega), List.getElem_map]
/-- A word is its head, its core and the head's inverse. -/
theorem strip_parts (c : List Int) : headL c ++ coreL c ++ invL (headL c) = c := by
  have h := strip_spec c
  obtain ⟨n, hn⟩ : ∃ n, stripN c = n := ⟨_, rfl⟩
  unfold headL coreL
  rw [hn] at h ⊢
  have hle := h.le
  have hl : (c.take n).length = n := by simp; omega
  refine ext_nth (by simp only [List.length_append, invL_length', List.length_take, List.length_drop]; omega) fun i hi => ?_
  have hi' : i < c.length := by simp only [List.length_append, invL_length', List.length_take, List.length_drop] at hi; omega
  rw [nth_append]
  have hl2 : (c.take n ++ (c.drop n).take (c.length - n - n)).length = c.length - n := by simp only [List.length_append, List.length_take, List.length_drop]; omega
  rw [hl2]
  by_cases h1 : i < c.length - n
  · rw [if_pos h1, nth_append, hl]
    by_cases h2 : i < n
    · rw [if_pos h2, nth_take' h2]
    · rw [if_neg h2, nth_take' (by omega), nth_drop']; congr 1; omega
  · rw [if_neg h1, nth_invL (by rw [hl]; omega), hl, nth_take' (by omega), h.off _ (by omega)]
    rw [show c.length - 1 - (n - 1 - (i - (c.length - n))) = i by omega]; omega
theorem core_ne {c : List Int} (h : Rd c) (hc : c ≠ []) : coreL c ≠ [] := by
  have hs := strip_spec c
  obtain ⟨n, hn⟩ : ∃ n, stripN c = n := ⟨_, rfl⟩
  have hl := List.length_pos_iff.2 hc
  intro e
  have e2 : (coreL c).length = 0 := by rw [e]; rfl
  unfold coreL at e2
  rw [hn] at hs e2
  have hle := hs.le
  rw [List.length_take, List.length_drop] at e2
  have h2 : c.length = 2 * n := by omega
  have h3 := hs.off (n - 1) (by omega)
  rw [rd_iff] at h
  have h4 := h (n - 1) (by omega)
  rw [show c.length - 1 - (n - 1) = n by omega] at h3
  rw [show n - 1 + 1 = n by omega] at h4
  omega
def CycRed (e : List Int) : Prop := nth e 0 ≠ -(nth e (e.length - 1))
theorem core_cyc {c : List Int} (h : Rd c) (hc : c ≠ []) (h0 : ∀ x ∈ c, x ≠ 0) : CycRed (coreL c) := by
  have hs := strip_spec c
  have hne := List.length_pos_iff.2 (core_ne h hc)
  obtain ⟨n, hn⟩ : ∃ n, stripN c = n := ⟨_, rfl⟩
  unfold CycRed
  unfold coreL at hne ⊢
  rw [hn] at hs hne ⊢
  have hle := hs.le
  rw [List.length_take, List.length_drop] at hne ⊢
  have hm : min (c.length - n - n) (c.length - n) = c.length - n - n := by omega
  rw [hm] at hne ⊢
  rw [nth_take' (by omega), nth_take' (by omega), nth_drop', nth_drop']
  rcases hs.stop with h2 | h2
  · have : n + (c.length - n - n - 1) = n + 0 := by omega
    rw [this]
    have := h0 _ (nth_mem (show n + 0 < c.length by omega))
    omega
  · rw [show n + (c.length - n - n - 1) = c.length - 1 - n by omega, show n + 0 = n by omega]; exact h2
/-- A word that is written so has this head and this core. -/
theorem strip_of (u e : List Int) (he : e ≠ []) (hc : CycRed e) : headL (u ++ e ++ invL u) = u ∧ coreL (u ++ e ++ invL u) = e := by
  have hle := List.length_pos_iff.2 he
  have hl : (u ++ e ++ invL u).length = u.length + e.length + u.length := by rw [List.length_append, List.length_append, invL_length']
  have hl2 : (u ++ e).length = u.length + e.length := List.length_append
  have key : Strip (u ++ e ++ invL u) u.length := by
    refine ⟨by omega, fun i hi => ?_, ?_⟩
    · rw [hl, nth_append, if_pos (by omega), nth_append, if_pos hi, nth_append, if_neg (by omega), hl2, nth_invL (by omega)]
      rw [show u.length - 1 - (u.length + e.length + u.length - 1 - i - (u.length + e.length)) = i by omega]; omega
    · right
      rw [nth_append, if_pos (by omega), nth_append, if_neg (by omega), hl, nth_append, if_pos (by omega), nth_append, if_neg (by omega)]
      rw [show u.length - u.length = 0 by omega, show u.length + e.length + u.length - 1 - u.length - u.length = e.length - 1 by omega]
      exact hc
  have hn := (strip_spec _).unique key
  unfold headL coreL
  rw [hn, hl]
  constructor
  · rw [List.append_assoc, List.take_left]
  · rw [List.append_assoc, List.drop_left, show u.length + e.length + u.length - u.length - u.length = e.length by omega, List.take_left]

/-- A word several times. -/
def rep (d : List Int) (j : Nat) : List Int := (List.replicate j d).flatten
theorem rep_zero (d : List Int) : rep d 0 = [] := rfl
theorem rep_succ (d : List Int) (j : Nat) : rep d (j + 1) = d ++ rep d j := by simp [rep, List.replicate_succ]
theorem rep_snoc (d : List Int) (j : Nat) : rep d (j + 1) = rep d j ++ d := by
  induction j with
  | zero => simp [rep]
  | succ j ih => rw [rep_succ, ih, ← List.append_assoc, ← rep_succ, ih]
theorem rep_length (d : List Int) (j : Nat) : (rep d j).length = j * d.length := by
  induction j with
  | zero => simp [rep]
  | succ j ih => rw [rep_succ, List.length_append, ih, Nat.succ_mul, Nat.add_comm]
theorem rep_ne {d : List Int} {j : Nat} (hd : d ≠ []) (hj : 0 < j) : rep d j ≠ [] := by
  have h1 := List.length_pos_iff.2 hd
  exact List.length_pos_iff.1 (by rw [rep_length]; exact Nat.mul_pos hj h1)
theorem nth_rep (d : List Int) (j : Nat) : ∀ i, i < j * d.length → nth (rep d j) i = nth d (i % d.length) := by
  induction j with
  | zero => intro i hi; omega
  | succ j ih =>
    intro i hi
    rw [rep_succ, nth_append]
    split
    · rename_i h; rw [Nat.mod_eq_of_lt h]
    · rename_i h
      rw [Nat.succ_mul] at hi
      rw [ih (i - d.length) (by omega)]
      congr 1
      conv => rhs; rw [show i = (i - d.length) + d.length by omega, Nat.add_mod_right]
theorem rep_first {d : List Int} {j : Nat} (hd : d ≠ []) (hj : 0 < j) : nth (rep d j) 0 = nth d 0 := by
  have h1 := List.length_pos_iff.2 hd
  rw [nth_rep d j 0 (Nat.mul_pos hj h1), Nat.zero_mod]
theorem rep_last {d : List Int} {j : Nat} (hd : d ≠ []) (hj : 0 < j) : nth (rep d j) ((rep d j).length - 1) = nth d (d.length - 1) := by
  have h1 := List.length_pos_iff.2 hd
  obtain ⟨k, rfl⟩ : ∃ k, j = k + 1 := ⟨j - 1, by omega⟩
  rw [rep_snoc, nth_append, List.length_append, if_neg (by omega)]
  congr 1; omega
theorem rep_rd {d : List Int} (hd : d ≠ []) (h : Rd d) (hc : CycRed d) (j : Nat) : Rd (rep d j) := by
  induction j with
  | zero => trivial
  | succ j ih =>
    rcases Nat.eq_zero_or_pos j with h0 | h0
    · subst h0; simpa [rep] using h
    · rw [rep_succ, rd_append hd (rep_ne hd h0), rep_first hd h0]
      exact ⟨h, ih, hc⟩
theorem rep_cyc {d : List Int} (hd : d ≠ []) (hc : CycRed d) {j : Nat} (hj : 0 < j) : CycRed (rep d j) := by
  unfold CycRed
  rw [rep_first hd hj, rep_last hd hj]; exact hc
theorem invL_ne {u : List Int} (h : u ≠ []) : invL u ≠ [] := by
  intro e; have := congrArg List.length e; rw [invL_length'] at this; exact h (List.length_eq_zero_iff.1 this)
/-- The power of a reduced word, written out. -/
theorem power_rd {u d : List Int} (hd : d ≠ []) (hc : CycRed d) (h : Rd (u ++ d ++ invL u)) {j : Nat} (hj : 0 < j) : Rd (u ++ rep d j ++ invL u) := by
  by_cases hu : u = []
  · subst hu
    have : Rd d := by simpa [invL] using h
    simpa [invL] using rep_rd hd this hc j
  · have hud : u ++ d ≠ [] := by simp [hu]
    have hur : u ++ rep d j ≠ [] := by simp [hu]
    rw [rd_append hud (invL_ne hu), rd_append hu hd] at h
    rw [rd_append hur (invL_ne hu), rd_append hu (rep_ne hd hj)]
    obtain ⟨⟨h1, h2, h3⟩, h4, h5⟩ := h
    refine ⟨⟨h1, rep_rd hd h2 hc j, by rw [rep_first hd hj]; exact h3⟩, h4, ?_⟩
    have l1 := List.length_pos_iff.2 hd
    have l2 := List.length_pos_iff.2 (rep_ne hd hj)
    rw [nth_append, List.length_append, if_neg (by omega), show u.length + (rep d j).length - 1 - u.length = (rep d j).length - 1 by omega, rep_last hd hj]
    rw [nth_append, List.length_append, if_neg (by omega), show u.length + d.length - 1 - u.length = d.length - 1 by omega] at h5
    exact h5
theorem redL_both (a b : List Int) : redL (redL a ++ redL b) = redL (a ++ b) := by
  have : act [] (redL a ++ redL b) = act [] (a ++ b) := by
    rw [act_append, act_append, act_redL rd_nil, act_redL (act_rd rd_nil _)]
  exact congrArg List.reverse this
theorem act_cancel {s : List Int} (h : Rd s) (u : List Int) : act (act s (invL u)) u = s := by
  have := act_invL h (invL u)
  rwa [invL_invL] at this
theorem redL_cancel (a u b : List Int) : redL (a ++ invL u ++ (u ++ b)) = redL (a ++ b) := by
  have : act [] (a ++ invL u ++ (u ++ b)) = act [] (a ++ b) := by
    rw [act_append, act_append, act_append, act_cancel (act_rd rd_nil _), act_append]
  exact congrArg List.reverse this
/-- One factor more. -/
theorem power_step (u d : List Int) (j : Nat) : redL (redL (u ++ rep d j ++ invL u) ++ redL (u ++ d ++ invL u)) = redL (u ++ rep d (j + 1) ++ invL u) := by
  rw [redL_both, rep_snoc, show u ++ d ++ invL u = u ++ (d ++ invL u) by simp, redL_cancel]
  simp
theorem power_zero (u d : List Int) : redL (u ++ rep d 0 ++ invL u) = [] := by
  rw [rep_zero, List.append_nil, redL, act_append, act_invL rd_nil]; rfl

/-- The element at a place around the word. -/
def cat (e : List Int) (i : Nat) : Int := nth e (i % e.length)
def Turns (e : List Int) (k : Nat) : Prop := ∀ i, cat e (i + k) = cat e i
theorem Turns.mul {e : List Int} {k : Nat} (h : Turns e k) (q : Nat) : Turns e (k * q) := by
  induction q with
  | zero => intro i; rfl
  | succ q ih => intro i; rw [Nat.mul_succ, ← Nat.add_assoc, h, ih]
theorem turns_len (e : List Int) : Turns e e.length := fun i => by unfold cat; rw [Nat.add_mod_right]
theorem Turns.mod {e : List Int} {a b : Nat} (h : Turns e a) (k : Turns e b) : Turns e (a % b) := fun i => by
  rw [← k.mul (a / b) (i + a % b), Nat.add_assoc, Nat.mod_add_div, h]
theorem Turns.gcd {e : List Int} (a b : Nat) : Turns e a → Turns e b → Turns e (Nat.gcd a b) := by
  induction a, b using Nat.gcd.induction with
  | H0 n => intro _ h; rwa [Nat.gcd_zero_left]
  | H1 m n hm ih =>
    intro h k
    rw [Nat.gcd_rec]
    exact ih (k.mod h) h
def Cond (e : List Int) (k : Nat) : Prop := e.length % k = 0 ∧ e.drop (k % e.length) ++ e.take (k % e.length) = e
theorem cond_iff {e : List Int} {k : Nat} (hk : 0 < k) (hl : k ≤ e.length) : Cond e k ↔ k ∣ e.length ∧ Turns e k := by
  have hL : 0 < e.length := by omega
  have hkm : k % e.length < e.length := Nat.mod_lt _ hL
  have key : (e.drop (k % e.length) ++ e.take (k % e.length) = e) ↔ Turns e k := by
    constructor
    · intro h i
      unfold cat
      have hi := Nat.mod_lt i hL
      have h2 : nth (e.drop (k % e.length) ++ e.take (k % e.length)) (i % e.length) = nth e (i % e.length) := by rw [h]
      rw [nth_append, List.length_drop] at h2
      rw [← h2, Nat.add_mod]
      split
      · rename_i h3
        rw [nth_drop', Nat.mod_eq_of_lt (show i % e.length + k % e.length < e.length by omega), Nat.add_comm]
      · rename_i h3
        rw [nth_take' (by omega)]
        have hx : (i % e.length + k % e.length) % e.length = i % e.length + k % e.length - e.length := by
          rw [Nat.mod_eq_sub_mod (by omega), Nat.mod_eq_of_lt (by omega)]
        rw [hx]
        congr 1
        omega
    · intro h
      refine ext_nth (by simp only [List.length_append, List.length_drop, List.length_take]; omega) fun i hi => ?_
      have hi' : i < e.length := by simp only [List.length_append, List.length_drop, List.length_take] at hi; omega
      have h2 := h i
      unfold cat at h2
      rw [Nat.add_mod, Nat.mod_eq_of_lt hi'] at h2
      rw [nth_append, List.length_drop, ← h2]
      split
      · rename_i h3
        rw [nth_drop', Nat.mod_eq_of_lt (show i + k % e.length < e.length by omega), Nat.add_comm]
      · rename_i h3
        rw [nth_take' (by omega)]
        have hx : (i + k % e.length) % e.length = i + k % e.length - e.length := by
          rw [Nat.mod_eq_sub_mod (by omega), Nat.mod_eq_of_lt (by omega)]
        rw [hx]
        congr 1
        omega
  unfold Cond
  rw [key]
  exact ⟨fun h => ⟨Nat.dvd_of_mod_eq_zero h.1, h.2⟩, fun h => ⟨Nat.mod_eq_zero_of_dvd h.1, h.2⟩⟩
structure IsRoot (e : List Int) (k : Nat) : Prop where
  pos : 0 < k
  le : k ≤ e.length
  cond : Cond e k
  least : ∀ k', 0 < k' → k' < k → ¬ Cond e k'
theorem IsRoot.unique {e : List Int} {k k' : Nat} (h : IsRoot e k) (g : IsRoot e k') : k = k' := by
  rcases Nat.lt_trichotomy k k' with h1 | h1 | h1
  · exact absurd h.cond (g.least k h.pos h1)
  · exact h1
  · exact absurd g.cond (h.least k' g.pos h1)
theorem cat_rep {d : List Int} {j : Nat} (hd : d ≠ []) (hj : 0 < j) (i : Nat) : cat (rep d j) i = cat d i := by
  have h1 := List.length_pos_iff.2 hd
  unfold cat
  rw [rep_length, nth_rep d j _ (Nat.mod_lt _ (Nat.mul_pos hj h1)), Nat.mod_mod_of_dvd _ ⟨j, Nat.mul_comm _ _⟩]
theorem isRoot_rep {d : List Int} {k j : Nat} (h : IsRoot d k) (hj : 0 < j) : IsRoot (rep d j) k := by
  have hl : 0 < d.length := by have := h.pos; have := h.le; omega
  have hd : d ≠ [] := List.length_pos_iff.1 hl
  have hlr := rep_length d j
  have hle : d.length ≤ j * d.length := Nat.le_mul_of_pos_left _ hj
  have ht : ∀ m, Turns (rep d j) m ↔ Turns d m := fun m => ⟨fun g i => by have := g i; rwa [cat_rep hd hj, cat_rep hd hj] at this, fun g i => by rw [cat_rep hd hj, cat_rep hd hj]; exact g i⟩
  have hc := (cond_iff h.pos h.le).1 h.cond
  refine ⟨h.pos, by rw [hlr]; have := h.le; omega, (cond_iff h.pos (by rw [hlr]; have := h.le; omega)).2 ⟨by rw [hlr]; exact Nat.dvd_trans hc.1 ⟨j, Nat.mul_comm _ _⟩, (ht k).2 hc.2⟩, fun k' hk0 hk1 hcon => ?_⟩
  have hk2 : k' ≤ (rep d j).length := by rw [hlr]; have := h.le; omega
  have hc' := (cond_iff hk0 hk2).1 hcon
  have hg := Turns.gcd k' d.length ((ht k').1 hc'.2) (turns_len d)
  have g0 : 0 < Nat.gcd k' d.length := Nat.gcd_pos_of_pos_left _ hk0
  have g1 : Nat.gcd k' d.length ≤ k' := Nat.gcd_le_left _ hk0
  exact h.least _ g0 (by omega) ((cond_iff g0 (by have := h.le; omega)).2 ⟨Nat.gcd_dvd_right _ _, hg⟩)
theorem rep_take {d : List Int} {k j : Nat} (hk : k ≤ d.length) (hj : 0 < j) : (rep d j).take k = d.take k := by
  obtain ⟨i, rfl⟩ : ∃ i, j = i + 1 := ⟨j - 1, by omega⟩
  rw [rep_succ, List.take_append_of_le_length hk]
/-- A word is its root several times. -/
theorem IsRoot.parts {d : List Int} {k : Nat} (h : IsRoot d k) : rep (d.take k) (d.length / k) = d := by
  have hc := (cond_iff h.pos h.le).1 h.cond
  have hlk : (d.take k).length = k := by rw [List.length_take]; have := h.le; omega
  have hm : d.length / k * k = d.length := Nat.div_mul_cancel hc.1
  refine ext_nth (by rw [rep_length, hlk, hm]) fun i hi => ?_
  rw [rep_length, hlk, hm] at hi
  rw [nth_rep _ _ _ (by rw [hlk, hm]; exact hi), hlk, nth_take' (Nat.mod_lt _ h.pos)]
  have h2 := (hc.2.mul (i / k)) (i % k)
  rw [Nat.mod_add_div] at h2
  unfold cat at h2
  have h3 : i % k < d.length := by have := Nat.mod_lt i h.pos; have := h.le; omega
  rw [Nat.mod_eq_of_lt hi, Nat.mod_eq_of_lt h3] at h2
  exact h2.symm

end Go.Proofs.Ytnkahkahcajahaa

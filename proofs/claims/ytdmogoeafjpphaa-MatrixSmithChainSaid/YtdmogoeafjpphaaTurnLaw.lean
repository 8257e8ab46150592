/- Determinants and greatest common divisors of minors of a transposed matrix; exchanged rows. No program. -/
import Derived.Test.YtdmogoeafjpphaaSolutions
namespace Go.Proofs.Ytdmogoeafjpphaa
open Go.RowKit Go.Sl

def altS : List (Nat × List Nat) → Int → (Nat → List Nat → Int) → Int
  | [], _, _ => 0
  | (d, ds) :: l, s, g => s * g d ds + altS l (-s) g
def sel : List Nat → List (Nat × List Nat)
  | [] => []
  | c :: cs => (c, cs) :: (sel cs).map fun p => (p.1, c :: p.2)
/-- The determinant of the rows and columns with these numbers. -/
def minL (a : Nat → Nat → Int) : List Nat → List Nat → Int
  | [], _ => 1
  | r :: rs, cs => altS (sel cs) 1 fun d ds => a r d * minL a rs ds

theorem altS_congr {l : List (Nat × List Nat)} {g h : Nat → List Nat → Int} (e : ∀ p ∈ l, g p.1 p.2 = h p.1 p.2) : ∀ s, altS l s g = altS l s h := by
  induction l with
  | nil => intro s; rfl
  | cons p l ih =>
    intro s
    obtain ⟨d, ds⟩ := p
    rw [altS, altS, e (d, ds) (by simp), ih (fun p hp => e p (by simp [hp]))]
theorem sel_mem {cs : List Nat} : ∀ p ∈ sel cs, p.1 ∈ cs ∧ ∀ x ∈ p.2, x ∈ cs := by
  induction cs with
  | nil => intro p hp; simp [sel] at hp
  | cons c cs ih =>
    intro p hp
    rw [sel, List.mem_cons] at hp
    rcases hp with rfl | hp
    · exact ⟨by simp, fun x hx => by simp [hx]⟩
    · obtain ⟨q, hq, rfl⟩ := List.mem_map.1 hp
      have := ih q hq
      refine ⟨by simp [this.1], fun x hx => ?_⟩
      rcases List.mem_cons.1 hx with rfl | hx
      · simp
      · simp [this.2 x hx]
theorem minL_congr {a b : Nat → Nat → Int} (rs : List Nat) : ∀ cs, (∀ r ∈ rs, ∀ c ∈ cs, a r c = b r c) → minL a rs cs = minL b rs cs := by
  induction rs with
  | nil => intro cs _; rfl
  | cons r rs ih =>
    intro cs h
    rw [minL, minL]
    refine altS_congr (fun p hp => ?_) 1
    have hm := sel_mem p hp
    rw [h r (by simp) _ hm.1, ih p.2 (fun r' hr' c hc => h r' (by simp [hr']) c (hm.2 c hc))]
theorem minL_map (a : Nat → Nat → Int) (s : Nat → Nat) (rs : List Nat) : ∀ cs, minL (fun i j => a (s i) j) rs cs = minL a (rs.map s) cs := by
  induction rs with
  | nil => intro cs; rfl
  | cons r rs ih =>
    intro cs
    rw [List.map_cons, minL, minL]
    exact altS_congr (fun p _ => by rw [ih]) 1

def bits6 (m : Nat) : List Nat := (List.range 6).filter (hasBit m)
theorem bits_rows : ∀ r : Fin 64, r.val ≠ 0 → bits6 r.val = low 6 r.val :: bits6 (r.val - 2 ^ low 6 r.val) := by decide +kernel
theorem sel_bits : ∀ c : Fin 64, sel (bits6 c.val) = (bits6 c.val).map fun j => (j, bits6 (c.val - 2 ^ j)) := by decide +kernel
theorem bits_len : ∀ r : Fin 64, (bits6 r.val).length = popc 6 r.val := by decide +kernel
theorem bits_lt : ∀ C : Fin 7, ∀ c : Fin 64, c.val < 2 ^ C.val → (List.range C.val).filter (hasBit c.val) = bits6 c.val := by decide +kernel
theorem bits_full : ∀ n : Fin 7, bits6 (full n.val) = List.range n.val := by decide +kernel

theorem altS_append (l : List (Nat × List Nat)) (p : Nat × List Nat) (g : Nat → List Nat → Int) : ∀ s, altS (l ++ [p]) s g = altS l s g + (if l.length % 2 = 0 then s else -s) * g p.1 p.2 := by
  induction l with
  | nil => intro s; simp [altS]
  | cons q l ih =>
    intro s
    obtain ⟨d, ds⟩ := q
    rw [List.cons_append, altS, altS, ih (-s), List.length_cons]
    by_cases h : l.length % 2 = 0
    · rw [if_pos h, if_neg (by omega)]; grind
    · rw [if_neg h, if_pos (by omega)]; grind
theorem sgn_eq (cols c : Nat) : sgn cols c = if ((List.range c).filter (hasBit cols)).length % 2 = 0 then 1 else -1 := by
  induction c with
  | zero => rfl
  | succ c ih =>
    rw [sgn, ih, List.range_succ, List.filter_append]
    by_cases hb : hasBit cols c = true
    · simp only [hb, if_true, List.filter_cons, List.filter_nil, List.length_append, List.length_cons, List.length_nil]
      split <;> split <;> first | rfl | omega
    · simp [hb, List.filter_cons]
theorem outTo_eq (e sub : Nat → Int) (g : Nat → List Nat) (cols c : Nat) : outTo e sub cols c = altS (((List.range c).filter (hasBit cols)).map fun j => (j, g j)) 1 fun d _ => e d * sub d := by
  induction c with
  | zero => rfl
  | succ c ih =>
    rw [outTo, ih, List.range_succ, List.filter_append, List.map_append]
    by_cases hb : hasBit cols c = true
    · have h1 : List.filter (hasBit cols) [c] = [c] := by simp [hb]
      rw [h1, List.map_cons, List.map_nil, altS_append, if_pos hb, sgn_eq, List.length_map]
      split <;> grind
    · have h1 : List.filter (hasBit cols) [c] = [] := by simp [hb]
      rw [h1, if_neg hb]; simp
theorem minM_eq (m : List (List Int)) {C : Nat} (hC : C ≤ 6) (f : Nat) : ∀ rows cols, rows < 64 → cols < 2 ^ C → popc 6 rows = f → minM m C f rows cols = minL (ent2 m) (bits6 rows) (bits6 cols) := by
  have h64 := pow_le64 ⟨C, by omega⟩
  simp only at h64
  induction f with
  | zero =>
    intro rows cols hr hc hp
    have h0 : rows = 0 := popc_zero ⟨rows, hr⟩ hp
    subst h0
    rfl
  | succ f ih =>
    intro rows cols hr hc hp
    have hne : rows ≠ 0 := by intro h; rw [h] at hp; revert hp; simp [popc]
    have h1 := bits_rows ⟨rows, hr⟩ hne
    have h2 := sel_bits ⟨cols, by omega⟩
    have h3 := bits_lt ⟨C, by omega⟩ ⟨cols, by omega⟩ hc
    have h4 := (low_facts ⟨rows, hr⟩ hne).2.2
    simp only at h1 h2 h3 h4
    rw [minM, h1, minL, h2, outTo_eq (ent2 m (low 6 rows)) _ (fun j => bits6 (cols - 2 ^ j)) cols C, h3]
    refine altS_congr (fun p hp' => ?_) 1
    obtain ⟨j, hj, rfl⟩ := List.mem_map.1 hp'
    rw [ih _ _ (Nat.lt_of_le_of_lt (Nat.sub_le _ _) hr) (Nat.lt_of_le_of_lt (Nat.sub_le _ _) hc) (by omega)]

set_option maxRecDepth 100000 in
theorem turned1 (a : Nat → Nat → Int) (r0 c0 : Nat) : minL (fun i j => a j i) [c0] [r0] = minL a [r0] [c0] := by
  simp [minL, sel, altS]
set_option maxRecDepth 100000 in
theorem turned2 (a : Nat → Nat → Int) (r0 r1 c0 c1 : Nat) : minL (fun i j => a j i) [c0, c1] [r0, r1] = minL a [r0, r1] [c0, c1] := by
  simp [minL, sel, altS]; grind (ringSteps := 1000000)
set_option maxRecDepth 100000 in
theorem turned3 (a : Nat → Nat → Int) (r0 r1 r2 c0 c1 c2 : Nat) : minL (fun i j => a j i) [c0, c1, c2] [r0, r1, r2] = minL a [r0, r1, r2] [c0, c1, c2] := by
  simp [minL, sel, altS]; grind (ringSteps := 1000000)
set_option maxRecDepth 100000 in
theorem turned4 (a : Nat → Nat → Int) (r0 r1 r2 r3 c0 c1 c2 c3 : Nat) : minL (fun i j => a j i) [c0, c1, c2, c3] [r0, r1, r2, r3] = minL a [r0, r1, r2, r3] [c0, c1, c2, c3] := by
  simp [minL, sel, altS]; grind (ringSteps := 1000000)
set_option maxRecDepth 100000 in
theorem turned5 (a : Nat → Nat → Int) (r0 r1 r2 r3 r4 c0 c1 c2 c3 c4 : Nat) : minL (fun i j => a j i) [c0, c1, c2, c3, c4] [r0, r1, r2, r3, r4] = minL a [r0, r1, r2, r3, r4] [c0, c1, c2, c3, c4] := by
  simp [minL, sel, altS]; grind (ringSteps := 1000000)
theorem minL_turn (a : Nat → Nat → Int) : ∀ rs cs : List Nat, rs.length = cs.length → rs.length ≤ 5 → minL (fun i j => a j i) cs rs = minL a rs cs
  | [], [], _, _ => rfl
  | [r0], [c0], _, _ => turned1 ..
  | [r0, r1], [c0, c1], _, _ => turned2 ..
  | [r0, r1, r2], [c0, c1, c2], _, _ => turned3 ..
  | [r0, r1, r2, r3], [c0, c1, c2, c3], _, _ => turned4 ..
  | [r0, r1, r2, r3, r4], [c0, c1, c2, c3, c4], _, _ => turned5 ..
  | _ :: _ :: _ :: _ :: _ :: _ :: _, _, _, h => by simp at h
  | [], _ :: _, h, _ => by simp at h
  | [_], [], h, _ => by simp at h
  | [_], _ :: _ :: _, h, _ => by simp at h
  | [_, _], [], h, _ => by simp at h
  | [_, _], [_], h, _ => by simp at h
  | [_, _], _ :: _ :: _ :: _, h, _ => by simp at h
  | [_, _, _], [], h, _ => by simp at h
  | [_, _, _], [_], h, _ => by simp at h
  | [_, _, _], [_, _], h, _ => by simp at h
  | [_, _, _], _ :: _ :: _ :: _ :: _, h, _ => by simp at h
  | [_, _, _, _], [], h, _ => by simp at h
  | [_, _, _, _], [_], h, _ => by simp at h
  | [_, _, _, _], [_, _], h, _ => by simp at h
  | [_, _, _, _], [_, _, _], h, _ => by simp at h
  | [_, _, _, _], _ :: _ :: _ :: _ :: _ :: _, h, _ => by simp at h
  | [_, _, _, _, _], [], h, _ => by simp at h
  | [_, _, _, _, _], [_], h, _ => by simp at h
  | [_, _, _, _, _], [_, _], h, _ => by simp at h
  | [_, _, _, _, _], [_, _, _], h, _ => by simp at h
  | [_, _, _, _, _], [_, _, _, _], h, _ => by simp at h
  | [_, _, _, _, _], _ :: _ :: _ :: _ :: _ :: _ :: _, h, _ => by simp at h

/-- The transposed matrix. -/
def turnL (m : List (List Int)) (n c : Nat) : List (List Int) := (List.range c).map fun k => (List.range n).map fun i => ent2 m i k
theorem turnL_length (m : List (List Int)) (n c : Nat) : (turnL m n c).length = c := by simp [turnL]
theorem nthr_turnL (m : List (List Int)) (n c k : Nat) (h : k < c) : nthr (turnL m n c) k = (List.range n).map fun i => ent2 m i k := by
  rw [nthr_lt (by rw [turnL_length]; exact h)]; simp [turnL]
theorem ent_turnL (m : List (List Int)) (n c i k : Nat) (hk : k < c) (hi : i < n) : ent2 (turnL m n c) k i = ent2 m i k := by
  unfold ent2
  rw [nthr_turnL _ _ _ _ hk, nth_lt (by simpa using hi)]; simp [ent2]
theorem isMat_turn {m : List (List Int)} {n c : Nat} (h : IsMat m n c) : IsMat (turnL m n c) c n := by
  refine ⟨turnL_length _ _ _, fun i hi => by rw [nthr_turnL _ _ _ _ hi]; simp, fun i hi j hj => ?_, h.hc, h.hn⟩
  have h1 := ent_turnL m n c j i hi hj
  have h2 := h.abs j i
  unfold ent2 at h1 h2
  rw [h1]; omega
theorem bits_bound : ∀ n : Fin 7, ∀ r : Fin 64, r.val < 2 ^ n.val → ∀ i ∈ bits6 r.val, i < n.val := by decide +kernel
theorem minM_turn (m : List (List Int)) {n k : Nat} (hn : n ≤ 5) (rows cols : Nat) (hr : rows < 2 ^ n) (hc : cols < 2 ^ n) (h1 : popc 6 rows = k) (h2 : popc 6 cols = k) :
    minM (turnL m n n) n k rows cols = minM m n k cols rows := by
  have h64 := pow_le64 ⟨n, by omega⟩
  simp only at h64
  rw [minM_eq _ (by omega) k rows cols (by omega) hc h1, minM_eq _ (by omega) k cols rows (by omega) hr h2]
  have b1 := bits_bound ⟨n, by omega⟩ ⟨rows, by omega⟩ hr
  have b2 := bits_bound ⟨n, by omega⟩ ⟨cols, by omega⟩ hc
  have l1 := bits_len ⟨rows, by omega⟩
  have l2 := bits_len ⟨cols, by omega⟩
  have l3 := popc_lt ⟨n, by omega⟩ ⟨rows, by omega⟩ hr
  simp only at b1 b2 l1 l2 l3
  rw [minL_congr (b := fun i j => ent2 m j i) (bits6 rows) (bits6 cols) (fun r hr c hc => ent_turnL m n n c r (b1 r hr) (b2 c hc))]
  exact minL_turn (ent2 m) (bits6 cols) (bits6 rows) (by omega) (by omega)
theorem full_popc : ∀ n : Fin 7, popc 6 (full n.val) = n.val ∧ full n.val < 2 ^ n.val := by decide +kernel
theorem det_turn (m : List (List Int)) {n : Nat} (hn : n ≤ 5) : detL (turnL m n n) n = detL m n := by
  have h := full_popc ⟨n, by omega⟩
  exact minM_turn m hn _ _ h.2 h.2 h.1 h.1

/-! ### The greatest common divisors -/
theorem colsG_dvd {m : List (List Int)} {C k r acc x : Nat} (c : Nat) : x ∣ colsG m C k r acc c ↔ x ∣ acc ∧ ∀ c', c' < c → popc 6 r = k → popc 6 c' = k → x ∣ (minM m C k r c').natAbs := by
  induction c with
  | zero => simp [colsG]
  | succ c ih =>
    rw [colsG]
    constructor
    · intro h
      have h0 : x ∣ colsG m C k r acc c := by
        split at h
        · exact (Nat.dvd_gcd_iff.1 h).1
        · exact h
      refine ⟨(ih.1 h0).1, fun c' hc' h1 h2 => ?_⟩
      rcases Nat.lt_or_ge c' c with hl | hl
      · exact (ih.1 h0).2 c' hl h1 h2
      · obtain rfl : c' = c := by omega
        rw [if_pos ⟨h1, h2⟩] at h
        exact (Nat.dvd_gcd_iff.1 h).2
    · rintro ⟨h1, h2⟩
      have h0 := ih.2 ⟨h1, fun c' hc' => h2 c' (by omega)⟩
      split
      · rename_i hh
        exact Nat.dvd_gcd h0 (h2 c (by omega) hh.1 hh.2)
      · exact h0
theorem rowsG_dvd {m : List (List Int)} {C k x : Nat} (r : Nat) : x ∣ rowsG m C k r ↔ ∀ r', r' < r → ∀ c', c' < 2 ^ C → popc 6 r' = k → popc 6 c' = k → x ∣ (minM m C k r' c').natAbs := by
  induction r with
  | zero => simp [rowsG]
  | succ r ih =>
    rw [rowsG, colsG_dvd, ih]
    constructor
    · rintro ⟨h1, h2⟩ r' hr' c' hc' e1 e2
      rcases Nat.lt_or_ge r' r with hl | hl
      · exact h1 r' hl c' hc' e1 e2
      · obtain rfl : r' = r := by omega
        exact h2 c' hc' e1 e2
    · intro h
      exact ⟨fun r' hr' => h r' (by omega), fun c' hc' e1 e2 => h r (by omega) c' hc' e1 e2⟩
theorem rowsG_turn (m : List (List Int)) {n : Nat} (hn : n ≤ 5) (k : Nat) : rowsG (turnL m n n) n k (2 ^ n) = rowsG m n k (2 ^ n) := by
  apply Nat.dvd_antisymm
  · rw [rowsG_dvd]
    intro r hr c hc e1 e2
    rw [← minM_turn m hn c r hc hr e2 e1]
    exact (rowsG_dvd (2 ^ n)).1 (Nat.dvd_refl _) c hc r hr e2 e1
  · rw [rowsG_dvd]
    intro r hr c hc e1 e2
    rw [minM_turn m hn r c hr hc e1 e2]
    exact (rowsG_dvd (2 ^ n)).1 (Nat.dvd_refl _) c hc r hr e2 e1
theorem smith_turn (m : List (List Int)) {n : Nat} (hn : n ≤ 5) : smithL (turnL m n n) n n = smithL m n n := by
  unfold smithL
  have h : dTo (turnL m n n) n (min n n) (2 ^ n) 0 = dTo m n (min n n) (2 ^ n) 0 := by
    apply ext_nth (by simp [dTo_length])
    intro k hk
    have hk' : k < min n n + 1 := by simpa [dTo_length] using hk
    rw [dTo_end (by omega), dTo_end (by omega), rowsG_turn m hn]
  rw [h]

/-! ### Two rows exchanged -/
def swap (x y i : Nat) : Nat := if i = x then y else if i = y then x else i
set_option maxRecDepth 100000 in
theorem swap_2_0_1 (a : Nat → Nat → Int) : minL a [1, 0] [0, 1] = -minL a [0, 1] [0, 1] := by
  simp [minL, sel, altS]; grind (ringSteps := 1000000)
set_option maxRecDepth 100000 in
theorem swap_3_0_1 (a : Nat → Nat → Int) : minL a [1, 0, 2] [0, 1, 2] = -minL a [0, 1, 2] [0, 1, 2] := by
  simp [minL, sel, altS]; grind (ringSteps := 1000000)
set_option maxRecDepth 100000 in
theorem swap_3_0_2 (a : Nat → Nat → Int) : minL a [2, 1, 0] [0, 1, 2] = -minL a [0, 1, 2] [0, 1, 2] := by
  simp [minL, sel, altS]; grind (ringSteps := 1000000)
set_option maxRecDepth 100000 in
theorem swap_3_1_2 (a : Nat → Nat → Int) : minL a [0, 2, 1] [0, 1, 2] = -minL a [0, 1, 2] [0, 1, 2] := by
  simp [minL, sel, altS]; grind (ringSteps := 1000000)
set_option maxRecDepth 100000 in
theorem swap_4_0_1 (a : Nat → Nat → Int) : minL a [1, 0, 2, 3] [0, 1, 2, 3] = -minL a [0, 1, 2, 3] [0, 1, 2, 3] := by
  simp [minL, sel, altS]; grind (ringSteps := 1000000)
set_option maxRecDepth 100000 in
theorem swap_4_0_2 (a : Nat → Nat → Int) : minL a [2, 1, 0, 3] [0, 1, 2, 3] = -minL a [0, 1, 2, 3] [0, 1, 2, 3] := by
  simp [minL, sel, altS]; grind (ringSteps := 1000000)
set_option maxRecDepth 100000 in
theorem swap_4_0_3 (a : Nat → Nat → Int) : minL a [3, 1, 2, 0] [0, 1, 2, 3] = -minL a [0, 1, 2, 3] [0, 1, 2, 3] := by
  simp [minL, sel, altS]; grind (ringSteps := 1000000)
set_option maxRecDepth 100000 in
theorem swap_4_1_2 (a : Nat → Nat → Int) : minL a [0, 2, 1, 3] [0, 1, 2, 3] = -minL a [0, 1, 2, 3] [0, 1, 2, 3] := by
  simp [minL, sel, altS]; grind (ringSteps := 1000000)
set_option maxRecDepth 100000 in
theorem swap_4_1_3 (a : Nat → Nat → Int) : minL a [0, 3, 2, 1] [0, 1, 2, 3] = -minL a [0, 1, 2, 3] [0, 1, 2, 3] := by
  simp [minL, sel, altS]; grind (ringSteps := 1000000)
set_option maxRecDepth 100000 in
theorem swap_4_2_3 (a : Nat → Nat → Int) : minL a [0, 1, 3, 2] [0, 1, 2, 3] = -minL a [0, 1, 2, 3] [0, 1, 2, 3] := by
  simp [minL, sel, altS]; grind (ringSteps := 1000000)
set_option maxRecDepth 100000 in
theorem swap_5_0_1 (a : Nat → Nat → Int) : minL a [1, 0, 2, 3, 4] [0, 1, 2, 3, 4] = -minL a [0, 1, 2, 3, 4] [0, 1, 2, 3, 4] := by
  simp [minL, sel, altS]; grind (ringSteps := 1000000)
set_option maxRecDepth 100000 in
theorem swap_5_0_2 (a : Nat → Nat → Int) : minL a [2, 1, 0, 3, 4] [0, 1, 2, 3, 4] = -minL a [0, 1, 2, 3, 4] [0, 1, 2, 3, 4] := by
  simp [minL, sel, altS]; grind (ringSteps := 1000000)
set_option maxRecDepth 100000 in
theorem swap_5_0_3 (a : Nat → Nat → Int) : minL a [3, 1, 2, 0, 4] [0, 1, 2, 3, 4] = -minL a [0, 1, 2, 3, 4] [0, 1, 2, 3, 4] := by
  simp [minL, sel, altS]; grind (ringSteps := 1000000)
set_option maxRecDepth 100000 in
theorem swap_5_0_4 (a : Nat → Nat → Int) : minL a [4, 1, 2, 3, 0] [0, 1, 2, 3, 4] = -minL a [0, 1, 2, 3, 4] [0, 1, 2, 3, 4] := by
  simp [minL, sel, altS]; grind (ringSteps := 1000000)
set_option maxRecDepth 100000 in
theorem swap_5_1_2 (a : Nat → Nat → Int) : minL a [0, 2, 1, 3, 4] [0, 1, 2, 3, 4] = -minL a [0, 1, 2, 3, 4] [0, 1, 2, 3, 4] := by
  simp [minL, sel, altS]; grind (ringSteps := 1000000)
set_option maxRecDepth 100000 in
theorem swap_5_1_3 (a : Nat → Nat → Int) : minL a [0, 3, 2, 1, 4] [0, 1, 2, 3, 4] = -minL a [0, 1, 2, 3, 4] [0, 1, 2, 3, 4] := by
  simp [minL, sel, altS]; grind (ringSteps := 1000000)
set_option maxRecDepth 100000 in
theorem swap_5_1_4 (a : Nat → Nat → Int) : minL a [0, 4, 2, 3, 1] [0, 1, 2, 3, 4] = -minL a [0, 1, 2, 3, 4] [0, 1, 2, 3, 4] := by
  simp [minL, sel, altS]; grind (ringSteps := 1000000)
set_option maxRecDepth 100000 in
theorem swap_5_2_3 (a : Nat → Nat → Int) : minL a [0, 1, 3, 2, 4] [0, 1, 2, 3, 4] = -minL a [0, 1, 2, 3, 4] [0, 1, 2, 3, 4] := by
  simp [minL, sel, altS]; grind (ringSteps := 1000000)
set_option maxRecDepth 100000 in
theorem swap_5_2_4 (a : Nat → Nat → Int) : minL a [0, 1, 4, 3, 2] [0, 1, 2, 3, 4] = -minL a [0, 1, 2, 3, 4] [0, 1, 2, 3, 4] := by
  simp [minL, sel, altS]; grind (ringSteps := 1000000)
set_option maxRecDepth 100000 in
theorem swap_5_3_4 (a : Nat → Nat → Int) : minL a [0, 1, 2, 4, 3] [0, 1, 2, 3, 4] = -minL a [0, 1, 2, 3, 4] [0, 1, 2, 3, 4] := by
  simp [minL, sel, altS]; grind (ringSteps := 1000000)
theorem swap_symm (x y i : Nat) : swap x y i = swap y x i := by
  unfold swap
  split <;> split <;> simp_all
theorem minL_swap (a : Nat → Nat → Int) {n x y : Nat} (hn : 2 ≤ n) (h5 : n ≤ 5) (hxy : x < y) (hy : y < n) : minL a ((List.range n).map (swap x y)) (List.range n) = -minL a (List.range n) (List.range n) := by
  rcases (show n = 2 ∨ n = 3 ∨ n = 4 ∨ n = 5 from by omega) with rfl | rfl | rfl | rfl
  · obtain ⟨rfl, rfl⟩ : x = 0 ∧ y = 1 := by omega
    exact swap_2_0_1 a
  · rcases (show (x = 0 ∧ y = 1) ∨ (x = 0 ∧ y = 2) ∨ (x = 1 ∧ y = 2) from by omega) with ⟨rfl, rfl⟩ | ⟨rfl, rfl⟩ | ⟨rfl, rfl⟩
    · exact swap_3_0_1 a
    · exact swap_3_0_2 a
    · exact swap_3_1_2 a
  · rcases (show (x = 0 ∧ y = 1) ∨ (x = 0 ∧ y = 2) ∨ (x = 0 ∧ y = 3) ∨ (x = 1 ∧ y = 2) ∨ (x = 1 ∧ y = 3) ∨ (x = 2 ∧ y = 3) from by omega) with ⟨rfl, rfl⟩ | ⟨rfl, rfl⟩ | ⟨rfl, rfl⟩ | ⟨rfl, rfl⟩ | ⟨rfl, rfl⟩ | ⟨rfl, rfl⟩
    · exact swap_4_0_1 a
    · exact swap_4_0_2 a
    · exact swap_4_0_3 a
    · exact swap_4_1_2 a
    · exact swap_4_1_3 a
    · exact swap_4_2_3 a
  · rcases (show (x = 0 ∧ y = 1) ∨ (x = 0 ∧ y = 2) ∨ (x = 0 ∧ y = 3) ∨ (x = 0 ∧ y = 4) ∨ (x = 1 ∧ y = 2) ∨ (x = 1 ∧ y = 3) ∨ (x = 1 ∧ y = 4) ∨ (x = 2 ∧ y = 3) ∨ (x = 2 ∧ y = 4) ∨ (x = 3 ∧ y = 4) from by omega) with ⟨rfl, rfl⟩ | ⟨rfl, rfl⟩ | ⟨rfl, rfl⟩ | ⟨rfl, rfl⟩ | ⟨rfl, rfl⟩ | ⟨rfl, rfl⟩ | ⟨rfl, rfl⟩ | ⟨rfl, rfl⟩ | ⟨rfl, rfl⟩ | ⟨rfl, rfl⟩
    · exact swap_5_0_1 a
    · exact swap_5_0_2 a
    · exact swap_5_0_3 a
    · exact swap_5_0_4 a
    · exact swap_5_1_2 a
    · exact swap_5_1_3 a
    · exact swap_5_1_4 a
    · exact swap_5_2_3 a
    · exact swap_5_2_4 a
    · exact swap_5_3_4 a
/-- The matrix with the rows x and y exchanged. -/
def swapL (m : List (List Int)) (x y : Nat) : List (List Int) := (m.set x (nthr m y)).set y (nthr m x)
theorem swapL_length (m : List (List Int)) (x y : Nat) : (swapL m x y).length = m.length := by simp [swapL]
theorem nthr_swapL (m : List (List Int)) {x y : Nat} (hxy : x ≠ y) (hx : x < m.length) (hy : y < m.length) (i : Nat) (hi : i < m.length) : nthr (swapL m x y) i = nthr m (swap x y i) := by
  rw [nthr_lt (by rw [swapL_length]; exact hi)]
  unfold swapL swap
  rw [List.getElem_set]
  by_cases h1 : y = i
  · subst h1; rw [if_pos rfl, if_neg (fun h => hxy h.symm), if_pos rfl]
  · rw [if_neg h1, List.getElem_set]
    by_cases h2 : x = i
    · subst h2; rw [if_pos rfl, if_pos rfl]
    · rw [if_neg h2, if_neg (fun h => h2 h.symm), if_neg (fun h => h1 h.symm), nthr_lt hi]
theorem ent_swapL (m : List (List Int)) {x y : Nat} (hxy : x ≠ y) (hx : x < m.length) (hy : y < m.length) (i j : Nat) (hi : i < m.length) : ent2 (swapL m x y) i j = ent2 m (swap x y i) j := by
  unfold ent2; rw [nthr_swapL m hxy hx hy i hi]
theorem swap_lt {x y i n : Nat} (hx : x < n) (hy : y < n) (hi : i < n) : swap x y i < n := by
  unfold swap; split
  · exact hy
  · split
    · exact hx
    · exact hi
theorem isMat_swap {m : List (List Int)} {n c x y : Nat} (h : IsMat m n c) (hxy : x ≠ y) (hx : x < n) (hy : y < n) : IsMat (swapL m x y) n c := by
  have hr := h.rows
  refine ⟨by rw [swapL_length]; exact hr, fun i hi => ?_, fun i hi j hj => ?_, h.hn, h.hc⟩
  · rw [nthr_swapL m hxy (by omega) (by omega) i (by omega)]; exact h.cols _ (swap_lt hx hy hi)
  · rw [nthr_swapL m hxy (by omega) (by omega) i (by omega)]; exact h.ent _ (swap_lt hx hy hi) j hj
theorem det_swap (m : List (List Int)) {n x y : Nat} (hl : m.length = n) (hn : 2 ≤ n) (h5 : n ≤ 5) (hxy : x ≠ y) (hx : x < n) (hy : y < n) : detL (swapL m x y) n = -detL m n := by
  have hf := full_popc ⟨n, by omega⟩
  have hb := bits_full ⟨n, by omega⟩
  have h64 := pow_le64 ⟨n, by omega⟩
  simp only at hf hb h64
  unfold detL
  rw [minM_eq _ (by omega) n _ _ (by omega) hf.2 hf.1, minM_eq _ (by omega) n _ _ (by omega) hf.2 hf.1, hb]
  rw [minL_congr (b := fun i j => ent2 m (swap x y i) j) _ _ (fun i hi j _ => ent_swapL m hxy (by omega) (by omega) i j (by rw [hl]; exact List.mem_range.1 hi)), minL_map]
  rcases Nat.lt_or_gt_of_ne hxy with h | h
  · exact minL_swap (ent2 m) hn h5 h hy
  · have e : (List.range n).map (swap x y) = (List.range n).map (swap y x) := List.map_congr_left (fun i _ => swap_symm x y i)
    rw [e]
    exact minL_swap (ent2 m) hn h5 h hx

end Go.Proofs.Ytdmogoeafjpphaa

/- Planar matchings on 2 to 6 strands: putL by the tables. -/
import Derived.Test.YtplekfgadbjgdaaQMatchingCounts1
import Derived.Test.YtplekfgadbjgdaaQMatchingCounts2
import Derived.Test.YtplekfgadbjgdaaQMatchingCounts3
import Derived.Test.YtplekfgadbjgdaaQMatchingCounts4
import Derived.Test.YtplekfgadbjgdaaQMatchingCounts5
import Derived.Test.YtplekfgadbjgdaaQMatchingCounts6
import Derived.Test.YtplekfgadbjgdaaQMatchingCounts7
import Derived.Test.YtplekfgadbjgdaaQMatchingCounts8

namespace Go.TL

/-- A product with loops on 0 .. N - 1, whose elements are products of generators 1 .. g; j is par j times gn j. -/
structure MulOK (N g : Nat) (par gn : Nat → Nat) (P : Nat → Nat → Nat × Nat) : Prop where
  gN : g < N
  lt : ∀ i j, i < N → j < N → (P i j).1 < N
  one : ∀ j, j < N → P 0 j = (j, 0)
  eno : ∀ i, i < N → P i 0 = (i, 0)
  parlt : ∀ j, 1 ≤ j → j < N → par j < j
  gn1 : ∀ j, 1 ≤ j → j < N → 1 ≤ gn j ∧ gn j ≤ g
  gen : ∀ j, 1 ≤ j → j < N → P (par j) (gn j) = (j, 0)
  right : ∀ i j, i < N → 1 ≤ j → j < N → (P i j).1 = (P (P i (par j)).1 (gn j)).1 ∧ (P i j).2 = (P i (par j)).2 + (P (P i (par j)).1 (gn j)).2
  comm : ∀ i a b, i < N → 1 ≤ a → a ≤ g → 1 ≤ b → b ≤ g → (P (P a i).1 b).1 = (P a (P i b).1).1 ∧ (P a i).2 + (P (P a i).1 b).2 = (P i b).2 + (P a (P i b).1).2

/-- The product of three from the left is that from the right. -/
def Asc (P : Nat → Nat → Nat × Nat) (i j k : Nat) : Prop := (P (P i j).1 k).1 = (P i (P j k).1).1 ∧ (P i j).2 + (P (P i j).1 k).2 = (P j k).2 + (P i (P j k).1).2

section
variable {N g : Nat} {par gn : Nat → Nat} {P : Nat → Nat → Nat × Nat} (H : MulOK N g par gn P)
include H

theorem assoc_of {i : Nat} (hi : i < N) (hg : ∀ y h, y < N → 1 ≤ h → h ≤ g → Asc P i y h) : ∀ k, k < N → ∀ j, j < N → Asc P i j k := by
  intro k
  induction k using Nat.strongRecOn with
  | ind k ih =>
    intro hk j hj
    rcases Nat.eq_zero_or_pos k with rfl | h1
    · unfold Asc
      rw [H.eno _ (H.lt i j hi hj), H.eno j hj]
      exact ⟨rfl, by simp⟩
    · have hp := H.parlt k h1 hk
      obtain ⟨q1, q2⟩ := H.gn1 k h1 hk
      obtain ⟨a1, a2⟩ := ih (par k) hp (by omega) j hj
      obtain ⟨b1, b2⟩ := H.right (P i j).1 k (H.lt i j hi hj) h1 hk
      obtain ⟨c1, c2⟩ := H.right j k hj h1 hk
      obtain ⟨d1, d2⟩ := hg (P j (par k)).1 (gn k) (H.lt _ _ hj (by omega)) q1 q2
      unfold Asc
      rw [c1, c2, b1, b2, a1]
      exact ⟨d1, by omega⟩
theorem gen_assoc : ∀ i, i < N → ∀ y h, y < N → 1 ≤ h → h ≤ g → Asc P i y h := by
  intro i
  induction i using Nat.strongRecOn with
  | ind i ih =>
    intro hi y h hy h1 h2
    have hgN := H.gN
    rcases Nat.eq_zero_or_pos i with rfl | hpos
    · unfold Asc
      rw [H.one y hy, H.one _ (H.lt y h hy (by omega))]
      exact ⟨rfl, by simp⟩
    · have hp := H.parlt i hpos hi
      obtain ⟨q1, q2⟩ := H.gn1 i hpos hi
      have G := ih (par i) hp (by omega)
      have M := fun y hy => assoc_of H (i := par i) (by omega) G y hy (gn i) (by omega)
      obtain ⟨m1, m2⟩ := M y hy
      obtain ⟨n1, n2⟩ := M (P y h).1 (H.lt _ _ hy (by omega))
      rw [H.gen i hpos hi] at m1 m2 n1 n2
      simp only [Nat.zero_add] at m1 m2 n1 n2
      obtain ⟨f1, f2⟩ := H.comm y (gn i) h hy q1 q2 h1 h2
      obtain ⟨e1, e2⟩ := G (P (gn i) y).1 h (H.lt _ _ (by omega) hy) h1 h2
      unfold Asc
      rw [m1, n1, m2, n2, e1, f1]
      rw [f1] at e2
      exact ⟨rfl, by omega⟩
theorem assoc {i j k : Nat} (hi : i < N) (hj : j < N) (hk : k < N) : Asc P i j k := assoc_of H hi (gen_assoc H i hi) k hk j hj

/-- A trace that does not see on which side a generator stands. -/
theorem trace {T : Nat → Nat} (ht : ∀ i h, i < N → 1 ≤ h → h ≤ g → T (P i h).1 + (P i h).2 = T (P h i).1 + (P h i).2) : ∀ j, j < N → ∀ i, i < N → T (P i j).1 + (P i j).2 = T (P j i).1 + (P j i).2 := by
  intro j
  have hgN := H.gN
  induction j using Nat.strongRecOn with
  | ind j ih =>
    intro hj i hi
    rcases Nat.eq_zero_or_pos j with rfl | hpos
    · rw [H.one i hi, H.eno i hi]
    · have hp := H.parlt j hpos hj
      obtain ⟨q1, q2⟩ := H.gn1 j hpos hj
      have hgl : gn j < N := by omega
      obtain ⟨r1, r2⟩ := H.right i j hi hpos hj
      have t1 := ht (P i (par j)).1 (gn j) (H.lt _ _ hi (by omega)) q1 q2
      obtain ⟨a1, a2⟩ := assoc H (i := gn j) (j := i) (k := par j) hgl hi (by omega)
      have t2 := ih (par j) hp (by omega) (P (gn j) i).1 (H.lt _ _ hgl hi)
      obtain ⟨b1, b2⟩ := assoc H (i := par j) (j := gn j) (k := i) (by omega) hgl hi
      rw [H.gen j hpos hj] at b1 b2
      rw [r1, r2]
      rw [a1] at t2
      simp only [Nat.zero_add] at b1 b2
      rw [← b1] at t2
      omega

end
end Go.TL

namespace Go.TL

def pv (T : List Nat) (i j : Nat) : Nat := dg (T.getD i 0) j
def PT (T : List Nat) (i j : Nat) : Nat × Nat := (pv T i j / 4, pv T i j % 4)
/-- f holds of all below n. -/
def allB (f : Nat → Bool) : Nat → Bool
  | 0 => true
  | n + 1 => bif f n then allB f n else false
theorem allB_of {f : Nat → Bool} : ∀ {n : Nat}, allB f n = true → ∀ i, i < n → f i = true
  | n + 1, h, i, hi => by
    unfold allB at h
    cases hf : f n with
    | false => rw [hf] at h; cases h
    | true =>
      rw [hf, cond_true] at h
      rcases Nat.lt_or_ge i n with h1 | h1
      · exact allB_of h i h1
      · rwa [show i = n by omega]
/-- What is to hold of row r. -/
def rightB (T : List Nat) (Q N i r : Nat) : Bool :=
  and (Nat.beq (dg r 0) (4 * i)) (allB (fun j => and (Nat.ble (dg r j / 4 + 1) N) (or (Nat.beq j 0)
    (and (Nat.beq (dg r j / 4) (pv T (dg r (dg Q j / 8) / 4) (dg Q j % 8) / 4)) (Nat.beq (dg r j % 4) (dg r (dg Q j / 8) % 4 + pv T (dg r (dg Q j / 8) / 4) (dg Q j % 8) % 4))))) N)
def rightsB (T : List Nat) (Q N : Nat) : List Nat → Nat → Bool
  | [], _ => true
  | r :: rs, i => bif rightB T Q N i r then rightsB T Q N rs (i + 1) else false
def commB (T : List Nat) (N g : Nat) : Bool := allB (fun i => allB (fun a => allB (fun b =>
  and (Nat.beq (pv T (pv T (a + 1) i / 4) (b + 1) / 4) (pv T (a + 1) (pv T i (b + 1) / 4) / 4))
    (Nat.beq (pv T (a + 1) i % 4 + pv T (pv T (a + 1) i / 4) (b + 1) % 4) (pv T i (b + 1) % 4 + pv T (a + 1) (pv T i (b + 1) / 4) % 4))) g) g) N
def genB (T : List Nat) (Q N g : Nat) : Bool := and (Nat.ble (g + 1) N) (and (Nat.beq T.length N) (allB (fun j => and (Nat.beq (pv T 0 j) (4 * j)) (or (Nat.beq j 0) (and (Nat.ble (dg Q j / 8 + 1) j) (and (and (Nat.ble 1 (dg Q j % 8)) (Nat.ble (dg Q j % 8) g)) (Nat.beq (pv T (dg Q j / 8) (dg Q j % 8)) (4 * j)))))) N))
theorem rights_of {T : List Nat} {Q N : Nat} : ∀ (rs : List Nat) (i : Nat), rightsB T Q N rs i = true → ∀ k, (hk : k < rs.length) → rightB T Q N (i + k) rs[k] = true
  | r :: rs, i, h, k, hk => by
    unfold rightsB at h
    cases hf : rightB T Q N i r with
    | false => rw [hf] at h; cases h
    | true =>
      rw [hf, cond_true] at h
      cases k with
      | zero => exact hf
      | succ k =>
        have := rights_of rs (i + 1) h k (by simpa using hk)
        rw [show i + (k + 1) = i + 1 + k by omega]; exact this
theorem mulOK {T : List Nat} {Q N g : Nat} (h1 : rightsB T Q N T 0 = true) (h2 : commB T N g = true) (h3 : genB T Q N g = true) : MulOK N g (fun j => dg Q j / 8) (fun j => dg Q j % 8) (PT T) := by
  unfold genB at h3
  simp only [Bool.and_eq_true] at h3
  obtain ⟨g1, g2, g3⟩ := h3
  have g1 := Nat.le_of_ble_eq_true g1
  have g2 := Nat.eq_of_beq_eq_true g2
  have G := fun j hj => allB_of g3 j hj
  have R := fun i (hi : i < N) => by
    have := rights_of T 0 h1 i (by omega)
    rw [Nat.zero_add] at this
    have e : T[i] = T.getD i 0 := by rw [List.getD_eq_getElem?_getD, List.getElem?_eq_getElem (by omega)]; rfl
    rw [e] at this
    unfold rightB at this
    simp only [Bool.and_eq_true] at this
    exact this
  have RR := fun i (hi : i < N) j (hj : j < N) => by
    have := allB_of (R i hi).2 j hj
    simp only [Bool.and_eq_true, Bool.or_eq_true] at this
    exact this
  have G' := fun j (hj : j < N) => by
    have := G j hj
    simp only [Bool.and_eq_true, Bool.or_eq_true] at this
    exact this
  have nz : ∀ {j : Nat}, 1 ≤ j → ¬ Nat.beq j 0 = true := fun h e => by have := Nat.eq_of_beq_eq_true e; omega
  refine ⟨by omega, fun i j hi hj => ?_, fun j hj => ?_, fun i hi => ?_, fun j h hj => ?_, fun j h hj => ?_, fun j h hj => ?_, fun i j hi h hj => ?_, fun i a b hi ha1 ha2 hb1 hb2 => ?_⟩
  · exact Nat.le_of_ble_eq_true (RR i hi j hj).1
  · have := Nat.eq_of_beq_eq_true (G' j hj).1
    unfold PT; rw [this]; exact Prod.ext (by simp only; omega) (by simp only; omega)
  · have : pv T i 0 = 4 * i := Nat.eq_of_beq_eq_true (R i hi).1
    unfold PT; rw [this]; exact Prod.ext (by simp only; omega) (by simp only; omega)
  · have := ((G' j hj).2.resolve_left (nz h)).1
    exact Nat.le_of_ble_eq_true this
  · have := ((G' j hj).2.resolve_left (nz h)).2.1
    exact ⟨Nat.le_of_ble_eq_true this.1, Nat.le_of_ble_eq_true this.2⟩
  · have : pv T (dg Q j / 8) (dg Q j % 8) = 4 * j := Nat.eq_of_beq_eq_true ((G' j hj).2.resolve_left (nz h)).2.2
    unfold PT; rw [this]; exact Prod.ext (by simp only; omega) (by simp only; omega)
  · have := (RR i hi j hj).2.resolve_left (nz h)
    exact ⟨Nat.eq_of_beq_eq_true this.1, Nat.eq_of_beq_eq_true this.2⟩
  · unfold commB at h2
    have := allB_of (allB_of (allB_of h2 i hi) (a - 1) (by omega)) (b - 1) (by omega)
    rw [show a - 1 + 1 = a by omega, show b - 1 + 1 = b by omega] at this
    simp only [Bool.and_eq_true] at this
    exact ⟨Nat.eq_of_beq_eq_true this.1, Nat.eq_of_beq_eq_true this.2⟩

theorem mul2 : MulOK 2 1 (fun j => dg mQ2 j / 8) (fun j => dg mQ2 j % 8) (PT mP2) := mulOK (by decide +kernel) (by decide +kernel) (by decide +kernel)
theorem mul3 : MulOK 5 2 (fun j => dg mQ3 j / 8) (fun j => dg mQ3 j % 8) (PT mP3) := mulOK (by decide +kernel) (by decide +kernel) (by decide +kernel)
theorem mul4 : MulOK 14 3 (fun j => dg mQ4 j / 8) (fun j => dg mQ4 j % 8) (PT mP4) := mulOK (by decide +kernel) (by decide +kernel) (by decide +kernel)
theorem mul5 : MulOK 42 4 (fun j => dg mQ5 j / 8) (fun j => dg mQ5 j % 8) (PT mP5) := mulOK (by decide +kernel) (by decide +kernel) (by decide +kernel)
theorem mul6 : MulOK 132 5 (fun j => dg mQ6 j / 8) (fun j => dg mQ6 j % 8) (PT mP6) := mulOK (by decide +kernel) (by decide +kernel) (by decide +kernel)

end Go.TL

namespace Go.TL

def codeB (C : Nat) : List (List Nat) → Nat → Bool
  | [], _ => true
  | s :: S, i => bif Nat.beq (Nat.mod (Nat.shiftRight C (Nat.mul 48 i)) 281474976710656) (encD s) then codeB C S (Nat.succ i) else false
theorem code_of {C : Nat} : ∀ (S : List (List Nat)) (i : Nat), codeB C S i = true → ∀ k, (hk : k < S.length) → Nat.mod (Nat.shiftRight C (Nat.mul 48 (i + k))) 281474976710656 = encD S[k]
  | s :: S, i, h, k, hk => by
    unfold codeB at h
    cases hf : Nat.beq (Nat.mod (Nat.shiftRight C (Nat.mul 48 i)) 281474976710656) (encD s) with
    | false => rw [hf] at h; cases h
    | true =>
      rw [hf, cond_true] at h
      cases k with
      | zero => exact Nat.eq_of_beq_eq_true hf
      | succ k =>
        have := code_of S (i + 1) h k (by simpa using hk)
        rw [show i + (k + 1) = i + 1 + k by omega]; exact this
theorem row_of {n : Nat} {A : List Nat} {P C : Nat} : ∀ (S : List (List Nat)) (j : Nat), rowOK n A P C S j = true → ∀ k, (hk : k < S.length) →
    fput n A S[k] = 64 * Nat.mod (Nat.shiftRight C (Nat.mul 48 (dg P (j + k) / 4))) 281474976710656 + dg P (j + k) % 4 + 1
  | s :: S, j, h, k, hk => by
    unfold rowOK at h
    revert h
    cases hf : Nat.beq (fput n A s) (Nat.succ (Nat.add (Nat.mul 64 (Nat.mod (Nat.shiftRight C (Nat.mul 48 (Nat.shiftRight (dg P j) 2))) 281474976710656)) (Nat.mod (dg P j) 4))) with
    | false => intro h; cases h
    | true =>
      intro h
      rw [cond_true] at h
      cases k with
      | zero =>
        have e := Nat.eq_of_beq_eq_true hf
        have e2 : Nat.shiftRight (dg P j) 2 = dg P j / 4 := by show dg P j >>> 2 = _; rw [Nat.shiftRight_eq_div_pow]
        rw [e2] at e
        exact e
      | succ k =>
        have := row_of S (j + 1) h k (by simpa using hk)
        rw [show j + (k + 1) = j + 1 + k by omega]; exact this
theorem rowsAll_of {n C : Nat} {S : List (List Nat)} : ∀ (As : List (List Nat)) (Ps : List Nat), rowsOK n C S As Ps = true → ∀ k, (hk : k < As.length) → rowOK n As[k] (Ps.getD k 0) C S 0 = true
  | a :: As, [], h, k, hk => by cases h
  | a :: As, P :: Ps, h, k, hk => by
    unfold rowsOK at h
    cases hf : rowOK n a P C S 0 with
    | false => rw [hf] at h; cases h
    | true =>
      rw [hf, cond_true] at h
      cases k with
      | zero => exact hf
      | succ k => exact rowsAll_of As Ps h k (by simpa using hk)

end Go.TL

namespace Go.TL

/-- The matchings of n strands in the order of the tables. -/
structure TabOK (n N : Nat) (S : List (List Nat)) (P : List Nat) : Prop where
  len : S.length = N
  put : ∀ i j, i < N → j < N → putL n (S.getD i []) (S.getD j []) = some (S.getD (PT P i j).1 [], (PT P i j).2) ∧ ∀ k, (lnAt (putLines n (S.getD i []) (S.getD j []) (2 * n)) k).length ≤ 2
theorem tabOK {n N C : Nat} {S : List (List Nat)} {P : List Nat} (hn1 : 1 ≤ n) (hn : 3 * n ≤ 31) (hn8 : 2 * n ≤ 16) (hlen : S.length = N) (hS : S.all (fun s => decide (s.length = 2 * n) && s.all fun x => decide (x < 2 * n)) = true) (hc : codeB C S 0 = true)
    (hlt : ∀ i j, i < N → j < N → (PT P i j).1 < N) (hrow : ∀ i, i < N → rowOK n (S.getD i []) (P.getD i 0) C S 0 = true) : TabOK n N S P := by
  refine ⟨hlen, fun i j hi hj => ?_⟩
  simp only [List.all_eq_true, Bool.and_eq_true, decide_eq_true_eq] at hS
  have gd : ∀ i, (h : i < N) → S.getD i [] = S[i] := fun i h => by rw [List.getD_eq_getElem?_getD, List.getElem?_eq_getElem (by omega)]; rfl
  have sl : ∀ i, i < N → (S.getD i []).length = 2 * n ∧ ∀ x ∈ S.getD i [], x < 2 * n := fun i h => by rw [gd i h]; exact hS _ (List.getElem_mem _)
  have sb : ∀ i, i < N → ∀ k, (S.getD i []).getD k 0 < 2 * n := fun i h k => by
    obtain ⟨h1, h2⟩ := sl i h
    by_cases hk : k < (S.getD i []).length
    · rw [List.getD_eq_getElem?_getD (l := S.getD i []), List.getElem?_eq_getElem hk]; exact h2 _ (List.getElem_mem hk)
    · rw [List.getD_eq_getElem?_getD (l := S.getD i []), List.getElem?_eq_none (by omega)]
      show 0 < 2 * n; omega
  have hr := row_of S 0 (hrow i hi) j (by omega)
  rw [← gd j hj, Nat.zero_add] at hr
  obtain ⟨O, K, e1, e2, e3, e4, e5, e6⟩ := fput_of hn hn8 (sl i hi).1 (sl j hj).1 (sb i hi) (sb j hj) hr (by omega)
  have hp := hlt i j hi hj
  have hcd := code_of S 0 hc (PT P i j).1 (by omega)
  rw [Nat.zero_add, ← gd _ hp] at hcd
  have hv : dg (P.getD i 0) j = pv P i j := rfl
  rw [hv] at e6
  have hcd2 : Nat.mod (Nat.shiftRight C (Nat.mul 48 (pv P i j / 4))) 281474976710656 = encD (S.getD (PT P i j).1 []) := hcd
  rw [hcd2] at e6
  have hK : K = (PT P i j).2 ∧ encD O = encD (S.getD (PT P i j).1 []) := by
    show K = pv P i j % 4 ∧ _
    constructor <;> omega
  refine ⟨?_, e2⟩
  rw [e1, hK.1]
  rw [encD_inj e3 (fun x hx => by have := (sl _ hp).2 x hx; omega) (by rw [e4, (sl _ hp).1]) hK.2]

theorem rowAt {n C N : Nat} {S : List (List Nat)} {P : List Nat} (hl : S.length = N) (h : rowsOK n C S S P = true) (i : Nat) (hi : i < N) : rowOK n (S.getD i []) (P.getD i 0) C S 0 = true := by
  have := rowsAll_of S P h i (by omega)
  rwa [show S.getD i [] = S[i] by rw [List.getD_eq_getElem?_getD, List.getElem?_eq_getElem (by omega)]; rfl]
theorem rowAt6 {c : Nat} (hc : c < 6) (h : rowsOK 6 mC6 mS6 ((mS6.drop (22 * c)).take 22) ((mP6.drop (22 * c)).take 22) = true) (hl : mS6.length = 132) (i : Nat) (h1 : 22 * c ≤ i) (h2 : i < 22 * c + 22) : rowOK 6 (mS6.getD i []) (mP6.getD i 0) mC6 mS6 0 = true := by
  have := rowsAll_of _ _ h (i - 22 * c) (by simp only [List.length_take, List.length_drop]; omega)
  rw [List.getElem_take, List.getElem_drop] at this
  have e1 : ((mP6.drop (22 * c)).take 22).getD (i - 22 * c) 0 = mP6.getD i 0 := by
    rw [List.getD_eq_getElem?_getD, List.getD_eq_getElem?_getD, List.getElem?_take, if_pos (by omega), List.getElem?_drop, show 22 * c + (i - 22 * c) = i by omega]
  rw [e1] at this
  have e2 : mS6.getD i [] = mS6[22 * c + (i - 22 * c)]'(by omega) := by
    have q := List.getElem?_eq_getElem (l := mS6) (i := 22 * c + (i - 22 * c)) (by omega)
    have q2 : mS6[22 * c + (i - 22 * c)]? = mS6[i]? := congrArg (fun k => mS6[k]?) (by omega)
    rw [List.getD_eq_getElem?_getD, ← q2, q]; rfl
  rw [e2]; exact this
theorem tab2 : TabOK 2 2 mS2 mP2 := tabOK (C := mC2) (by decide) (by decide) (by decide) (by decide +kernel) (by decide +kernel) (by decide +kernel) mul2.lt (rowAt (by decide +kernel) rows2)
theorem tab3 : TabOK 3 5 mS3 mP3 := tabOK (C := mC3) (by decide) (by decide) (by decide) (by decide +kernel) (by decide +kernel) (by decide +kernel) mul3.lt (rowAt (by decide +kernel) rows3)
theorem tab4 : TabOK 4 14 mS4 mP4 := tabOK (C := mC4) (by decide) (by decide) (by decide) (by decide +kernel) (by decide +kernel) (by decide +kernel) mul4.lt (rowAt (by decide +kernel) rows4)
theorem tab5 : TabOK 5 42 mS5 mP5 := tabOK (C := mC5) (by decide) (by decide) (by decide) (by decide +kernel) (by decide +kernel) (by decide +kernel) mul5.lt (rowAt (by decide +kernel) rows5)
theorem tab6 : TabOK 6 132 mS6 mP6 := tabOK (C := mC6) (by decide) (by decide) (by decide) (by decide +kernel) (by decide +kernel) (by decide +kernel) mul6.lt fun i hi => by
  have hl : mS6.length = 132 := by decide +kernel
  rcases Nat.lt_or_ge i 22 with h | h
  · exact rowAt6 (c := 0) (by decide) rows6_0 hl i (by omega) (by omega)
  rcases Nat.lt_or_ge i 44 with h | h
  · exact rowAt6 (c := 1) (by decide) rows6_1 hl i (by omega) (by omega)
  rcases Nat.lt_or_ge i 66 with h | h
  · exact rowAt6 (c := 2) (by decide) rows6_2 hl i (by omega) (by omega)
  rcases Nat.lt_or_ge i 88 with h | h
  · exact rowAt6 (c := 3) (by decide) rows6_3 hl i (by omega) (by omega)
  rcases Nat.lt_or_ge i 110 with h | h
  · exact rowAt6 (c := 4) (by decide) rows6_4 hl i (by omega) (by omega)
  · exact rowAt6 (c := 5) (by decide) rows6_5 hl i (by omega) (by omega)

end Go.TL


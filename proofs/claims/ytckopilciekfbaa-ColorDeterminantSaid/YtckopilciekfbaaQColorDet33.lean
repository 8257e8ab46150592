/- The two sides of a relation of the braid group, and words around them. -/
import Derived.Test.YtckopilciekfbaaQColorDet0
import Derived.Test.YtckopilciekfbaaQColorDet1
import Derived.Test.YtckopilciekfbaaQColorDet2
import Derived.Test.YtckopilciekfbaaQColorDet3
import Derived.Test.YtckopilciekfbaaQColorDet4
import Derived.Test.YtckopilciekfbaaQColorDet5
import Derived.Test.YtckopilciekfbaaQColorDet6
import Derived.Test.YtckopilciekfbaaQColorDet7
import Derived.Test.YtckopilciekfbaaQColorDet10
import Derived.Test.YtckopilciekfbaaQColorDet11
import Derived.Test.YtckopilciekfbaaQColorDet16
import Derived.Test.YtckopilciekfbaaQColorDet17
import Derived.Test.YtckopilciekfbaaQColorDet18
import Derived.Test.YtckopilciekfbaaQColorDet25
import Derived.Test.YtckopilciekfbaaQColorDet26
import Derived.Test.YtckopilciekfbaaQColorDet28
import Derived.Test.YtckopilciekfbaaQColorDet29
import Derived.Test.YtckopilciekfbaaQColorDet30
import Derived.Test.YtckopilciekfbaaQColorDet31
import Derived.RangeFuncNested
import Derived.RangeFuncCalls
import Derived.OrdersIn
import Derived.OrdersHeld
import Derived.Deep.RegionHeld
import Derived.RangeFuncBound
import Derived.RangeFuncLeaves
import Derived.RangeFuncBox
import Derived.Shelf.Abstract
import Derived.Shelf.RegionOpen
import Derived.OwnWalkIn
import Derived.TacticsInMore
import Derived.LoopNIn
import Derived.LoopIn
import Derived.Maps.AppendAt
import Derived.Lib.AppendZeros
import Derived.Lib.Walk
namespace Go.Proofs.Ytckopilciekfbaa
open Go.RowKit Go.Sl

def altS : List (Nat × List Nat) → Int → (Nat → List Nat → Int) → Int
  | [], _, _ => 0
  | (d, ds) :: l, s, g => s * g d ds + altS l (-s) g
def sel : List Nat → List (Nat × List Nat)
  | [] => []
  | c :: cs => (c, cs) :: (sel cs).map fun p => (p.1, c :: p.2)
/-- The determinant of the rows and columns with these numbers. -/
def minL (a : Nat → Nat → Int) : List Nat → List Nat → Int
  | [], _ => 1
  | r :: rs, cs => altS (sel cs) 1 fun d ds => a r d * minL a rs ds

theorem altS_congr {l : List (Nat × List Nat)} {g h : Nat → List Nat → Int} (e : ∀ p ∈ l, g p.1 p.2 = h p.1 p.2) : ∀ s, altS l s g = altS l s h := by
  induction l with
  | nil => intro s; rfl
  | cons p l ih =>
    intro s
    obtain ⟨d, ds⟩ := p
    rw [altS, altS, e (d, ds) (by simp), ih (fun p hp => e p (by simp [hp]))]
def bits6 (m : Nat) : List Nat := (List.range 6).filter (hasBit m)
theorem bits_rows : ∀ r : Fin 64, r.val ≠ 0 → bits6 r.val = low 6 r.val :: bits6 (r.val - 2 ^ low 6 r.val) := by decide +kernel
theorem sel_bits : ∀ c : Fin 64, sel (bits6 c.val) = (bits6 c.val).map fun j => (j, bits6 (c.val - 2 ^ j)) := by decide +kernel
theorem bits_len : ∀ r : Fin 64, (bits6 r.val).length = popc 6 r.val := by decide +kernel
theorem bits_lt : ∀ C : Fin 7, ∀ c : Fin 64, c.val < 2 ^ C.val → (List.range C.val).filter (hasBit c.val) = bits6 c.val := by decide +kernel
theorem altS_append (l : List (Nat × List Nat)) (p : Nat × List Nat) (g : Nat → List Nat → Int) : ∀ s, altS (l ++ [p]) s g = altS l s g + (if l.length % 2 = 0 then s else -s) * g p.1 p.2 := by
  induction l with
  | nil => intro s; simp [altS]
  | cons q l ih =>
    intro s
    obtain ⟨d, ds⟩ := q
    rw [List.cons_append, altS, altS, ih (-s), List.length_cons]
    by_cases h : l.length % 2 = 0
    · rw [if_pos h, if_neg (by omega)]; grind
    · rw [if_neg h, if_pos (by omega)]; grind
theorem sgn_eq (cols c : Nat) : sgn cols c = if ((List.range c).filter (hasBit cols)).length % 2 = 0 then 1 else -1 := by
  induction c with
  | zero => rfl
  | succ c ih =>
    rw [sgn, ih, List.range_succ, List.filter_append]
    by_cases hb : hasBit cols c = true
    · simp only [hb, if_true, List.filter_cons, List.filter_nil, List.length_append, List.length_cons, List.length_nil]
      split <;> split <;> first | rfl | omega
    · simp [hb, List.filter_cons]
theorem outTo_eq (e sub : Nat → Int) (g : Nat → List Nat) (cols c : Nat) : outTo e sub cols c = altS (((List.range c).filter (hasBit cols)).map fun j => (j, g j)) 1 fun d _ => e d * sub d := by
  induction c with
  | zero => rfl
  | succ c ih =>
    rw [outTo, ih, List.range_succ, List.filter_append, List.map_append]
    by_cases hb : hasBit cols c = true
    · have h1 : List.filter (hasBit cols) [c] = [c] := by simp [hb]
      rw [h1, List.map_cons, List.map_nil, altS_append, if_pos hb, sgn_eq, List.length_map]
      split <;> grind
    · have h1 : List.filter (hasBit cols) [c] = [] := by simp [hb]
      rw [h1, if_neg hb]; simp
theorem minM_eq (m : List (List Int)) {C : Nat} (hC : C ≤ 6) (f : Nat) : ∀ rows cols, rows < 64 → cols < 2 ^ C → popc 6 rows = f → minM m C f rows cols = minL (ent2 m) (bits6 rows) (bits6 cols) := by
  have h64 := pow_le64 ⟨C, by omega⟩
  simp only at h64
  induction f with
  | zero =>
    intro rows cols hr hc hp
    have h0 : rows = 0 := popc_zero ⟨rows, hr⟩ hp
    subst h0
    rfl
  | succ f ih =>
    intro rows cols hr hc hp
    have hne : rows ≠ 0 := by intro h; rw [h] at hp; revert hp; simp [popc]
    have h1 := bits_rows ⟨rows, hr⟩ hne
    have h2 := sel_bits ⟨cols, by omega⟩
    have h3 := bits_lt ⟨C, by omega⟩ ⟨cols, by omega⟩ hc
    have h4 := (low_facts ⟨rows, hr⟩ hne).2.2
    simp only at h1 h2 h3 h4
    rw [minM, h1, minL, h2, outTo_eq (ent2 m (low 6 rows)) _ (fun j => bits6 (cols - 2 ^ j)) cols C, h3]
    refine altS_congr (fun p hp' => ?_) 1
    obtain ⟨j, hj, rfl⟩ := List.mem_map.1 hp'
    rw [ih _ _ (Nat.lt_of_le_of_lt (Nat.sub_le _ _) hr) (Nat.lt_of_le_of_lt (Nat.sub_le _ _) hc) (by omega)]

theorem colsG_dvd {m : List (List Int)} {C k r acc x : Nat} (c : Nat) : x ∣ colsG m C k r acc c ↔ x ∣ acc ∧ ∀ c', c' < c → popc 6 r = k → popc 6 c' = k → x ∣ (minM m C k r c').natAbs := by
  induction c with
  | zero => simp [colsG]
  | succ c ih =>
    rw [colsG]
    constructor
    · intro h
      have h0 : x ∣ colsG m C k r acc c := by
        split at h
        · exact (Nat.dvd_gcd_iff.1 h).1
        · exact h
      refine ⟨(ih.1 h0).1, fun c' hc' h1 h2 => ?_⟩
      rcases Nat.lt_or_ge c' c with hl | hl
      · exact (ih.1 h0).2 c' hl h1 h2
      · obtain rfl : c' = c := by omega
        rw [if_pos ⟨h1, h2⟩] at h
        exact (Nat.dvd_gcd_iff.1 h).2
    · rintro ⟨h1, h2⟩
      have h0 := ih.2 ⟨h1, fun c' hc' => h2 c' (by omega)⟩
      split
      · rename_i hh
        exact Nat.dvd_gcd h0 (h2 c (by omega) hh.1 hh.2)
      · exact h0
theorem rowsG_dvd {m : List (List Int)} {C k x : Nat} (r : Nat) : x ∣ rowsG m C k r ↔ ∀ r', r' < r → ∀ c', c' < 2 ^ C → popc 6 r' = k → popc 6 c' = k → x ∣ (minM m C k r' c').natAbs := by
  induction r with
  | zero => simp [rowsG]
  | succ r ih =>
    rw [rowsG, colsG_dvd, ih]
    constructor
    · rintro ⟨h1, h2⟩ r' hr' c' hc' e1 e2
      rcases Nat.lt_or_ge r' r with hl | hl
      · exact h1 r' hl c' hc' e1 e2
      · obtain rfl : r' = r := by omega
        exact h2 c' hc' e1 e2
    · intro h
      exact ⟨fun r' hr' => h r' (by omega), fun c' hc' e1 e2 => h r (by omega) c' hc' e1 e2⟩
def swap (x y i : Nat) : Nat := if i = x then y else if i = y then x else i
end Go.Proofs.Ytckopilciekfbaa

namespace Go.Proofs.Ytckopilciekfbaa
open Go.RowKit Go.Sl
open Go.Det (sumN dt mul upd Alt uni sgN skp)

section
variable {R : Type} [Lean.Grind.CommRing R]
theorem combR {n : Nat} {F : (Nat → Nat → R) → R} (h : Alt n F) (A : Nat → Nat → R) (c : Nat → R) {r : Nat} (hr : r < n) : F (upd A r (fun j => sumN (fun k => c k * A k j) n)) = c r * F A := by
  rw [h.sum A hr]
  rw [Go.Det.sumN_one n r hr fun k hk hkr => ?_]
  · rw [Go.Det.upd_self]
  · rw [h.zero hk hr hkr _ fun j _ => by rw [Go.Det.upd_other _ _ hkr, Go.Det.upd_same]]; grind
theorem sum_uniR (n : Nat) (c : Nat → R) {i : Nat} (hi : i < n) : sumN (fun k => c k * uni k i) n = c i := by
  rw [Go.Det.sumN_one n i hi (fun k _ hk => by unfold uni; rw [if_neg hk]; grind)]
  unfold uni; rw [if_pos rfl]; grind
/-- The cofactor. -/
def cof (n : Nat) (A : Nat → Nat → R) (l j : Nat) : R := dt n (upd A l (uni j))
theorem cof_sum {n : Nat} (A : Nat → Nat → R) {l : Nat} (hl : l < n) (f : Nat → R) : dt n (upd A l f) = sumN (fun j => f j * cof n A l j) n := by
  have h := (Go.Det.alt_dt (R := R) n).sum A hl f (fun k => uni k) n
  show _ = sumN (fun k => f k * dt n (upd A l (uni k))) n
  rw [← h]
  refine Go.Det.dt_congr fun i j _ hj => ?_
  unfold upd
  by_cases e : i = l
  · rw [if_pos e, if_pos e, sum_uniR n f hj]
  · rw [if_neg e, if_neg e]
/-- A cofactor is the minor without the row and the column, up to the sign. -/
theorem cof_minor (n : Nat) : ∀ (l : Nat) (A : Nat → Nat → R) (j : Nat), l < n + 1 → j < n + 1 → cof (n + 1) A l j = sgN l * sgN j * dt n (fun a b => A (skp l a) (skp j b)) := by
  intro l
  induction l with
  | zero =>
    intro A j _ hj
    unfold cof
    rw [dt, Go.Det.sumN_one (n + 1) j hj (fun k _ hk => by rw [Go.Det.upd_same]; unfold uni; rw [if_neg (Ne.symm hk)]; grind), Go.Det.upd_same]
    have e : dt n (fun a b => upd A 0 (uni j) (a + 1) (skp j b)) = dt n (fun a b => A (skp 0 a) (skp j b)) := by
      refine Go.Det.dt_congr fun a b _ _ => ?_
      rw [Go.Det.upd_other _ _ (by omega)]
      have : skp 0 a = a + 1 := by unfold skp; rw [if_neg (by omega)]
      rw [this]
    rw [e, Go.Det.sgN_zero]; unfold uni; rw [if_pos rfl]; grind
  | succ l ih =>
    intro A j hl hj
    have sw := (Go.Det.alt_dt (R := R) (n + 1)).swap (p := l) (q := l + 1) (by omega) (by omega) (by omega) A (A l) (uni j)
    rw [Go.Det.upd_self] at sw
    have e1 : cof (n + 1) (upd A (l + 1) (A l)) l j = dt (n + 1) (upd (upd A l (uni j)) (l + 1) (A l)) := by
      unfold cof; rw [Go.Det.upd_comm _ _ _ (by omega)]
    have h := ih (upd A (l + 1) (A l)) j (by omega) hj
    have e2 : dt n (fun a b => upd A (l + 1) (A l) (skp l a) (skp j b)) = dt n (fun a b => A (skp (l + 1) a) (skp j b)) := by
      refine Go.Det.dt_congr fun a b _ _ => ?_
      unfold upd
      by_cases e : skp l a = l + 1
      · rw [if_pos e]
        have h1 : a = l := by unfold skp at e; split at e <;> omega
        have h2 : skp (l + 1) a = l := by unfold skp; rw [if_pos (by omega)]; exact h1
        rw [h2]
      · rw [if_neg e]
        have h1 : skp (l + 1) a = skp l a := by unfold skp at e ⊢; (repeat' split) <;> split at e <;> omega
        rw [h1]
    unfold cof at *
    rw [sw, ← e1, h, e2, Go.Det.sgN_succ]; grind
theorem dt_scal (n : Nat) (c : R) : dt n (fun i j => c * uni i j) = c ^ n := by
  induction n with
  | zero => rw [dt, Lean.Grind.Semiring.pow_zero]
  | succ n ih =>
    rw [Go.Det.dt_corner n _ (fun i hi => by unfold uni; rw [if_neg (by omega)]; grind), ih, Lean.Grind.Semiring.pow_succ]
    unfold uni; rw [if_pos rfl]; grind
end

/-- A prime number, as the program's moduli are. -/
def PrimeZ (p : Int) : Prop := ∀ a b : Int, p ∣ a * b → p ∣ a ∨ p ∣ b
theorem PrimeZ.pow {p : Int} (hp : PrimeZ p) {x : Int} : ∀ {n : Nat}, 0 < n → p ∣ x ^ n → p ∣ x := by
  intro n
  induction n with
  | zero => intro h; omega
  | succ n ih =>
    intro _ h
    rw [Int.pow_succ] at h
    rcases hp _ _ h with h | h
    · rcases Nat.eq_zero_or_pos n with e | e
      · subst e
        exact Int.dvd_trans (by simpa using h) (Int.one_dvd x)
      · exact ih e h
    · exact h
theorem primeZ_small {p : Nat} (hp : p = 2 ∨ p = 3 ∨ p = 5 ∨ p = 7 ∨ p = 11 ∨ p = 13) : PrimeZ (p : Int) := by
  intro a b h
  have h1 : a * b % p = 0 := Int.emod_eq_zero_of_dvd h
  rw [Int.mul_emod] at h1
  have key : a % p = 0 ∨ b % p = 0 := by
    have ra := Int.emod_nonneg a (show (p : Int) ≠ 0 by omega)
    have rb := Int.emod_nonneg b (show (p : Int) ≠ 0 by omega)
    have la := Int.emod_lt_of_pos a (show (0 : Int) < p by omega)
    have lb := Int.emod_lt_of_pos b (show (0 : Int) < p by omega)
    obtain ⟨x, hx⟩ : ∃ x : Nat, a % p = x := ⟨(a % p).toNat, by omega⟩
    obtain ⟨y, hy⟩ : ∃ y : Nat, b % p = y := ⟨(b % p).toNat, by omega⟩
    rw [hx, hy] at h1 ⊢
    have h2 : x * y % p = 0 := by exact_mod_cast h1
    have hx2 : x < p := by omega
    have hy2 : y < p := by omega
    have D : ∀ p : Fin 14, (p.val = 2 ∨ p.val = 3 ∨ p.val = 5 ∨ p.val = 7 ∨ p.val = 11 ∨ p.val = 13) → ∀ x y : Fin 14, x.val < p.val → y.val < p.val → x.val * y.val % p.val = 0 → x.val = 0 ∨ y.val = 0 := by decide +kernel
    rcases D ⟨p, by omega⟩ hp ⟨x, by omega⟩ ⟨y, by omega⟩ hx2 hy2 h2 with h | h
    · left; simp only at h; omega
    · right; simp only at h; omega
  rcases key with h | h
  · exact .inl (Int.dvd_of_emod_eq_zero h)
  · exact .inr (Int.dvd_of_emod_eq_zero h)

/-- If a prime divides a determinant, it does so besides any number that divides all cofactors. -/
theorem prime_step {n : Nat} (M : Nat → Nat → Int) {p g : Int} (hn : 0 < n) (hp : PrimeZ p) (hd : p ∣ dt n M) (hg : ∀ l j, l < n → j < n → g ∣ cof n M l j) : p * g ∣ dt n M := by
  have hexp : dt n M = sumN (fun j => M 0 j * cof n M 0 j) n := by
    have := cof_sum M hn (M 0)
    rwa [Go.Det.upd_self] at this
  have hgd : g ∣ dt n M := by
    rw [hexp]
    have : ∀ k, k ≤ n → g ∣ sumN (fun j => M 0 j * cof n M 0 j) k := by
      intro k
      induction k with
      | zero => intro _; exact Int.dvd_zero _
      | succ k ih => intro hk; rw [sumN]; exact Int.dvd_add (ih (by omega)) (Int.dvd_mul_of_dvd_right (hg 0 k hn (by omega)))
    exact this n (Nat.le_refl _)
  obtain ⟨d, hdd⟩ := hgd
  by_cases g0 : g = 0
  · rw [hdd, g0]; simp
  obtain ⟨N, hN⟩ : ∃ N : Nat → Nat → Int, N = fun l j => cof n M l j / g := ⟨_, rfl⟩
  have hNg : ∀ l j, l < n → j < n → cof n M l j = g * N l j := fun l j hl hj => by
    rw [hN]
    exact (Int.mul_ediv_cancel' (hg l j hl hj)).symm
  have hprod : ∀ i l, i < n → l < n → mul n M (fun j l => N l j) i l = d * uni i l := by
    intro i l hi hl
    refine Int.eq_of_mul_eq_mul_left g0 ?_
    unfold mul
    rw [← Go.Det.sumN_mul]
    have e1 : sumN (fun k => g * (M i k * N l k)) n = sumN (fun k => M i k * cof n M l k) n := Go.Det.sumN_congr n fun k hk => by rw [hNg l k hl hk]; grind
    rw [e1, ← cof_sum M hl (M i)]
    by_cases e : i = l
    · subst e
      rw [Go.Det.upd_self, hdd]; unfold uni; rw [if_pos rfl]; grind
    · rw [(Go.Det.alt_dt n).zero hi hl e _ fun j _ => by rw [Go.Det.upd_other _ _ e, Go.Det.upd_same]]
      unfold uni; rw [if_neg e]; grind
  have hdet := Go.Det.dt_mul n M (fun j l => N l j)
  rw [Go.Det.dt_congr hprod, dt_scal] at hdet
  have h1 : p ∣ d ^ n := by
    have : d ^ n = dt n M * dt n (fun j l => N l j) := hdet
    rw [this]
    exact Int.dvd_mul_of_dvd_left hd
  obtain ⟨q, hq⟩ := hp.pow hn h1
  exact ⟨q, by rw [hdd, hq]; grind⟩

/-! The program's minors. -/
def minD (a : Nat → Nat → Int) (rs cs : List Nat) : Int := dt rs.length (fun i j => a (rs.getD i 0) (cs.getD j 0))
theorem altS_sumN (l : List (Nat × List Nat)) (g : Nat → List Nat → Int) : ∀ s, altS l s g = s * sumN (fun k => sgN k * g (l.getD k (0, [])).1 (l.getD k (0, [])).2) l.length := by
  have first : ∀ (f : Nat → Int) (m : Nat), sumN f (m + 1) = f 0 + sumN (fun j => f (j + 1)) m := by
    intro f m
    induction m with
    | zero => simp only [sumN]; grind
    | succ m ih => rw [sumN, ih]; simp only [sumN]; grind
  induction l with
  | nil => intro s; simp [altS, sumN]
  | cons p l ih =>
    intro s
    obtain ⟨d, ds⟩ := p
    rw [altS, ih, List.length_cons, first]
    have e : ∀ k, k < l.length → sgN (k + 1) * g (((d, ds) :: l).getD (k + 1) (0, [])).1 (((d, ds) :: l).getD (k + 1) (0, [])).2 = (-1) * (sgN k * g (l.getD k (0, [])).1 (l.getD k (0, [])).2) := fun k _ => by
      rw [List.getD_cons_succ, Go.Det.sgN_succ]; grind
    rw [Go.Det.sumN_congr _ e, Go.Det.sumN_mul, List.getD_cons_zero, Go.Det.sgN_zero]; grind
theorem sel_nth (cs : List Nat) : (sel cs).length = cs.length ∧ ∀ k, k < cs.length → (sel cs).getD k (0, []) = (cs.getD k 0, cs.eraseIdx k) := by
  induction cs with
  | nil => exact ⟨rfl, fun k h => by simp at h⟩
  | cons c cs ih =>
    obtain ⟨h1, h2⟩ := ih
    refine ⟨by simp [sel, h1], fun k hk => ?_⟩
    cases k with
    | zero => simp [sel]
    | succ k =>
      have hk2 : k < cs.length := by simpa using hk
      have h3 := h2 k hk2
      rw [List.getD_eq_getElem?_getD, List.getElem?_eq_getElem (by rw [h1]; exact hk2)] at h3
      simp only [Option.getD_some] at h3
      rw [sel, List.getD_cons_succ, List.getD_eq_getElem?_getD, List.getElem?_map, List.getElem?_eq_getElem (by rw [h1]; exact hk2)]
      simp only [Option.map_some, Option.getD_some, h3, List.getD_cons_succ, List.eraseIdx_cons_succ]
theorem getD_erase (cs : List Nat) (k j : Nat) : (cs.eraseIdx k).getD j 0 = cs.getD (skp k j) 0 := by
  rw [List.getD_eq_getElem?_getD, List.getD_eq_getElem?_getD, List.getElem?_eraseIdx]
  unfold skp
  split <;> rfl
theorem minL_minD (a : Nat → Nat → Int) (rs : List Nat) : ∀ cs, cs.length = rs.length → minL a rs cs = minD a rs cs := by
  induction rs with
  | nil => intro cs _; rfl
  | cons r rs ih =>
    intro cs hc
    obtain ⟨h1, h2⟩ := sel_nth cs
    rw [minL, altS_sumN, h1, hc]
    unfold minD
    rw [List.length_cons, dt, Int.one_mul]
    refine Go.Det.sumN_congr _ fun k hk => ?_
    have hk2 : k < cs.length := by rw [hc]; simpa using hk
    rw [h2 k hk2]
    simp only [List.getD_cons_zero]
    rw [ih _ (by rw [List.length_eraseIdx_of_lt hk2, hc]; simp)]
    unfold minD
    rw [Int.mul_assoc]
    congr 2
    refine Go.Det.dt_congr fun i j _ _ => ?_
    rw [List.getD_cons_succ, getD_erase]
theorem cof_minD (a : Nat → Nat → Int) {rs cs : List Nat} (h : cs.length = rs.length) {l j : Nat} (hl : l < rs.length) (hj : j < rs.length) :
    cof rs.length (fun i j => a (rs.getD i 0) (cs.getD j 0)) l j = sgN l * sgN j * minD a (rs.eraseIdx l) (cs.eraseIdx j) := by
  obtain ⟨n, hn⟩ : ∃ n, rs.length = n + 1 := ⟨rs.length - 1, by omega⟩
  rw [hn, cof_minor n l _ j (by omega) (by omega)]
  unfold minD
  rw [List.length_eraseIdx_of_lt hl, hn, Nat.add_sub_cancel]
  congr 1
  refine Go.Det.dt_congr fun i b _ _ => ?_
  rw [getD_erase, getD_erase]
theorem bits_erase : ∀ r : Fin 64, ∀ l : Fin 6, l.val < (bits6 r.val).length → ∃ s : Fin 64, s.val ≤ r.val ∧ bits6 s.val = (bits6 r.val).eraseIdx l.val := by decide +kernel
theorem bits_all : ∀ n : Fin 7, ∀ r : Fin 64, r.val < 2 ^ n.val → ∀ x ∈ bits6 r.val, x < n.val := by decide +kernel

/-- The greatest common divisor of the minors of k rows. -/
def gD (m : List (List Int)) (n k : Nat) : Nat := rowsG m n k (2 ^ n)
section
variable {m : List (List Int)} {n : Nat}
theorem gD_dvd (hn : n ≤ 6) (k x : Nat) : x ∣ gD m n k ↔ ∀ r c, r < 2 ^ n → c < 2 ^ n → (bits6 r).length = k → (bits6 c).length = k → (x : Int) ∣ minD (ent2 m) (bits6 r) (bits6 c) := by
  have h64 := pow_le64 ⟨n, by omega⟩
  simp only at h64
  unfold gD
  rw [rowsG_dvd]
  constructor
  · intro H r c hr hc h1 h2
    have b1 := bits_len ⟨r, by omega⟩
    have b2 := bits_len ⟨c, by omega⟩
    simp only at b1 b2
    have := H r hr c hc (by omega) (by omega)
    rw [minM_eq m hn k r c (by omega) hc (by omega), minL_minD _ _ _ (by omega)] at this
    exact Int.ofNat_dvd_left.2 this
  · intro H r hr c hc h1 h2
    have b1 := bits_len ⟨r, by omega⟩
    have b2 := bits_len ⟨c, by omega⟩
    simp only at b1 b2
    rw [minM_eq m hn k r c (by omega) hc (by omega), minL_minD _ _ _ (by omega)]
    exact Int.ofNat_dvd_left.1 (H r c hr hc (by omega) (by omega))
theorem gD_minor (hn : n ≤ 6) {k r c : Nat} (hr : r < 2 ^ n) (hc : c < 2 ^ n) (h1 : (bits6 r).length = k) (h2 : (bits6 c).length = k) : ((gD m n k : Nat) : Int) ∣ minD (ent2 m) (bits6 r) (bits6 c) :=
  (gD_dvd hn k _).1 (Nat.dvd_refl _) r c hr hc h1 h2
theorem gD_cof (hn : n ≤ 6) {k r c l j : Nat} (hr : r < 2 ^ n) (hc : c < 2 ^ n) (h1 : (bits6 r).length = k + 1) (h2 : (bits6 c).length = k + 1) (hl : l < k + 1) (hj : j < k + 1) :
    ((gD m n k : Nat) : Int) ∣ cof (k + 1) (fun i j => ent2 m ((bits6 r).getD i 0) ((bits6 c).getD j 0)) l j := by
  have h64 := pow_le64 ⟨n, by omega⟩
  simp only at h64
  have hk6 : k + 1 ≤ 6 := by
    have := bits_len ⟨r, by omega⟩
    have h3 := popc_le ⟨r, by omega⟩
    simp only at this h3; omega
  obtain ⟨r', hr', e1⟩ := bits_erase ⟨r, by omega⟩ ⟨l, by omega⟩ (by simp only; omega)
  obtain ⟨c', hc', e2⟩ := bits_erase ⟨c, by omega⟩ ⟨j, by omega⟩ (by simp only; omega)
  simp only at e1 e2 hr' hc'
  have h3 := cof_minD (ent2 m) (rs := bits6 r) (cs := bits6 c) (by omega) (l := l) (j := j) (by omega) (by omega)
  rw [h1] at h3
  rw [h3, ← e1, ← e2]
  refine Int.dvd_mul_of_dvd_right (gD_minor hn (by omega) (by omega) ?_ ?_)
  · rw [e1, List.length_eraseIdx_of_lt (by omega)]; omega
  · rw [e2, List.length_eraseIdx_of_lt (by omega)]; omega
theorem gD_zero (hn : n ≤ 6) : gD m n 0 = 1 := by
  have h := gD_minor (m := m) hn (k := 0) (r := 0) (c := 0) (Nat.pow_pos (by decide)) (Nat.pow_pos (by decide)) (by decide) (by decide)
  have h2 : ((gD m n 0 : Nat) : Int) ∣ ((1 : Nat) : Int) := h
  exact Nat.dvd_one.1 (Int.natCast_dvd_natCast.1 h2)
theorem gD_up (hn : n ≤ 6) (k : Nat) : gD m n k ∣ gD m n (k + 1) := by
  refine (gD_dvd hn (k + 1) _).2 fun r c hr hc h1 h2 => ?_
  have hexp : minD (ent2 m) (bits6 r) (bits6 c) = sumN (fun j => ent2 m ((bits6 r).getD 0 0) ((bits6 c).getD j 0) * cof (k + 1) (fun i j => ent2 m ((bits6 r).getD i 0) ((bits6 c).getD j 0)) 0 j) (k + 1) := by
    have := cof_sum (fun i j => ent2 m ((bits6 r).getD i 0) ((bits6 c).getD j 0)) (n := k + 1) (l := 0) (by omega) (fun j => ent2 m ((bits6 r).getD 0 0) ((bits6 c).getD j 0))
    rw [← this]
    unfold minD
    rw [h1]
    have e : (fun j => ent2 m ((bits6 r).getD 0 0) ((bits6 c).getD j 0)) = (fun i j => ent2 m ((bits6 r).getD i 0) ((bits6 c).getD j 0)) 0 := rfl
    rw [e, Go.Det.upd_self]
  rw [hexp]
  have : ∀ q, q ≤ k + 1 → ((gD m n k : Nat) : Int) ∣ sumN (fun j => ent2 m ((bits6 r).getD 0 0) ((bits6 c).getD j 0) * cof (k + 1) (fun i j => ent2 m ((bits6 r).getD i 0) ((bits6 c).getD j 0)) 0 j) q := by
    intro q
    induction q with
    | zero => intro _; exact Int.dvd_zero _
    | succ q ih => intro hq; rw [sumN]; exact Int.dvd_add (ih (by omega)) (Int.dvd_mul_of_dvd_right (gD_cof hn hr hc h1 h2 (by omega) (by omega)))
  exact this _ (Nat.le_refl _)
theorem gD_prime (hn : n ≤ 6) {p : Nat} (hp : PrimeZ (p : Int)) (k : Nat) (h : p ∣ gD m n (k + 1)) : p * gD m n k ∣ gD m n (k + 1) := by
  refine (gD_dvd hn (k + 1) _).2 fun r c hr hc h1 h2 => ?_
  have hd := (gD_dvd hn (k + 1) p).1 h r c hr hc h1 h2
  have := prime_step (fun i j => ent2 m ((bits6 r).getD i 0) ((bits6 c).getD j 0)) (n := k + 1) (p := (p : Int)) (g := ((gD m n k : Nat) : Int)) (by omega) hp (by unfold minD at hd; rwa [h1] at hd)
    (fun l j hl hj => gD_cof hn hr hc h1 h2 hl hj)
  rw [Int.natCast_mul]
  unfold minD
  rw [h1]; exact this
theorem nth_smithD {k : Nat} (hk : k < n) : nth (smithL m n n) k = if gD m n (k + 1) = 0 then 0 else ((gD m n (k + 1) / gD m n k : Nat) : Int) := by
  have hk2 : k < min n n := by omega
  unfold smithL gD
  rw [facL, nth_fac _ _ _ hk2, facAt, dTo_end (by omega), dTo_end (by omega)]
  by_cases h : rowsG m n (k + 1) (2 ^ n) = 0
  · rw [if_pos h, if_pos (by rw [h]; rfl)]
  · rw [if_neg h, if_neg (by omega)]; simp
/-- A prime's share of a factor. -/
theorem smith_prime (hn : n ≤ 6) {p : Nat} (hp : PrimeZ (p : Int)) (hp1 : ∀ d, d ∣ p → d = 1 ∨ d = p) {k : Nat} (hk : k < n) : Nat.gcd (nth (smithL m n n) k).natAbs p = if p ∣ gD m n (k + 1) then p else 1 := by
  rw [nth_smithD hk]
  by_cases h : p ∣ gD m n (k + 1)
  · rw [if_pos h]
    by_cases h0 : gD m n (k + 1) = 0
    · rw [if_pos h0]; simp
    · rw [if_neg h0, Int.natAbs_natCast]
      obtain ⟨q, hq⟩ := gD_prime hn hp k h
      have hg : 0 < gD m n k := Nat.pos_of_ne_zero fun e => h0 (by rw [hq, e]; simp)
      have : gD m n (k + 1) / gD m n k = p * q := by rw [hq, show p * gD m n k * q = gD m n k * (p * q) by grind]; exact Nat.mul_div_cancel_left _ hg
      rw [this, Nat.gcd_comm]
      exact Nat.gcd_eq_left (Nat.dvd_mul_right p q)
  · rw [if_neg h]
    have h0 : gD m n (k + 1) ≠ 0 := fun e => h (by rw [e]; exact Nat.dvd_zero _)
    rw [if_neg h0, Int.natAbs_natCast]
    rcases hp1 _ (Nat.gcd_dvd_right (gD m n (k + 1) / gD m n k) p) with e | e
    · exact e
    · exfalso
      have h1 : p ∣ gD m n (k + 1) / gD m n k := by rw [← e]; exact Nat.gcd_dvd_left _ _
      obtain ⟨q, hq⟩ := gD_up (m := m) hn k
      rw [hq] at h1 h
      have hg : 0 < gD m n k := Nat.pos_of_ne_zero fun e => h0 (by rw [hq, e]; simp)
      rw [Nat.mul_div_cancel_left _ hg] at h1
      exact h (Nat.dvd_trans h1 (Nat.dvd_mul_left _ _))
end

end Go.Proofs.Ytckopilciekfbaa

namespace Go.Proofs.Ytckopilciekfbaa
open Go.RowKit Go.Sl
open Go.Det (sumN dt mul upd Alt uni sgN skp)

/-! Congruent matrices. -/
theorem dvd_sum {p : Int} {f : Nat → Int} (n : Nat) (h : ∀ k, k < n → p ∣ f k) : p ∣ sumN f n := by
  induction n with
  | zero => exact Int.dvd_zero _
  | succ n ih => rw [sumN]; exact Int.dvd_add (ih fun k hk => h k (by omega)) (h n (by omega))
theorem dvd_mul_sub {p a b c d : Int} (h1 : p ∣ a - b) (h2 : p ∣ c - d) : p ∣ a * c - b * d := by
  obtain ⟨x, hx⟩ := h1
  obtain ⟨y, hy⟩ := h2
  have e1 : a = b + p * x := by omega
  have e2 : c = d + p * y := by omega
  exact ⟨b * y + x * d + p * x * y, by rw [e1, e2]; grind⟩
theorem dt_mod {p : Int} (n : Nat) : ∀ {A B : Nat → Nat → Int}, (∀ i j, i < n → j < n → p ∣ A i j - B i j) → p ∣ dt n A - dt n B := by
  induction n with
  | zero => intro A B _; rw [dt, dt]; exact ⟨0, by omega⟩
  | succ n ih =>
    intro A B h
    rw [dt, dt]
    have e : sumN (fun c => sgN c * A 0 c * dt n fun i j => A (i + 1) (skp c j)) (n + 1) - sumN (fun c => sgN c * B 0 c * dt n fun i j => B (i + 1) (skp c j)) (n + 1) =
        sumN (fun c => sgN c * A 0 c * (dt n fun i j => A (i + 1) (skp c j)) - sgN c * B 0 c * dt n fun i j => B (i + 1) (skp c j)) (n + 1) := by
      have h1 := Go.Det.sumN_lin (1 : Int) (-1) (fun c => sgN c * A 0 c * dt n fun i j => A (i + 1) (skp c j)) (fun c => sgN c * B 0 c * dt n fun i j => B (i + 1) (skp c j)) (n + 1)
      have h2 : ∀ k, k < n + 1 → sgN k * A 0 k * (dt n fun i j => A (i + 1) (skp k j)) - sgN k * B 0 k * (dt n fun i j => B (i + 1) (skp k j)) = 1 * (sgN k * A 0 k * dt n fun i j => A (i + 1) (skp k j)) + (-1) * (sgN k * B 0 k * dt n fun i j => B (i + 1) (skp k j)) := fun k _ => by grind
      rw [Go.Det.sumN_congr _ h2, h1]; grind
    rw [e]
    refine dvd_sum _ fun c hc => dvd_mul_sub ?_ (ih fun i j hi hj => h _ _ (by omega) (by unfold skp; split <;> omega))
    have := h 0 c (by omega) hc
    have e2 : sgN c * A 0 c - sgN c * B 0 c = sgN c * (A 0 c - B 0 c) := by grind
    rw [e2]; exact Int.dvd_mul_of_dvd_right this
section
variable {m m' : List (List Int)} {n : Nat}
/-- The solutions modulo a prime. -/
def shr (p : Nat) (m : List (List Int)) (n : Nat) : Nat → Nat
  | 0 => 1
  | t + 1 => shr p m n t * if p ∣ gD m n (t + 1) then p else 1
theorem solTo_prime (hn : n ≤ 6) {p : Nat} (hp : PrimeZ (p : Int)) (hp1 : ∀ d, d ∣ p → d = 1 ∨ d = p) : ∀ t, t ≤ n → solTo (smithL m n n) p t = shr p m n t := by
  intro t
  induction t with
  | zero => intro _; rfl
  | succ t ih => intro ht; rw [solTo, shr, ih (by omega), smith_prime hn hp hp1 (by omega)]
theorem solL_square (M : Nat) : solL (smithL m n n) M n = solTo (smithL m n n) M n := by
  unfold solL
  rw [smithL_length, Nat.min_self, Nat.sub_self, Nat.pow_zero, Nat.mul_one]
theorem solL_prime (hn : n ≤ 6) {p : Nat} (hp : PrimeZ (p : Int)) (hp1 : ∀ d, d ∣ p → d = 1 ∨ d = p) : solL (smithL m n n) p n = shr p m n n := by
  rw [solL_square, solTo_prime hn hp hp1 n (Nat.le_refl _)]
theorem shr_pos {p : Nat} (hp : 0 < p) (t : Nat) : 0 < shr p m n t := by
  induction t with
  | zero => exact Nat.one_pos
  | succ t ih => rw [shr]; refine Nat.mul_pos ih ?_; split <;> omega
/-- More solutions than one: the prime divides one of the greatest common divisors. -/
theorem shr_more (hn : n ≤ 6) {p : Nat} (hp : 1 < p) : ∀ t, 1 < shr p m n t ↔ p ∣ gD m n t := by
  intro t
  induction t with
  | zero =>
    rw [shr, gD_zero hn]
    exact ⟨fun h => by omega, fun h => by have := Nat.le_of_dvd Nat.one_pos h; omega⟩
  | succ t ih =>
    rw [shr]
    have h1 := shr_pos (m := m) (n := n) (show 0 < p by omega) t
    constructor
    · intro h
      by_cases e : p ∣ gD m n (t + 1)
      · exact e
      · rw [if_neg e, Nat.mul_one, ih] at h
        exact Nat.dvd_trans h (gD_up hn t)
    · intro e
      rw [if_pos e]
      have := Nat.mul_le_mul h1 (Nat.le_refl p)
      omega
theorem full_bits : ∀ n : Fin 7, ∀ r : Fin 64, r.val < 2 ^ n.val → (bits6 r.val).length = n.val → bits6 r.val = List.range n.val := by decide +kernel
theorem range_getD {n i : Nat} (h : i < n) : (List.range n).getD i 0 = i := by rw [List.getD_eq_getElem?_getD, List.getElem?_range h]; rfl
theorem cof_turn {R : Type} [Lean.Grind.CommRing R] (n : Nat) (A : Nat → Nat → R) {l j : Nat} (hl : l < n) (hj : j < n) : cof n (fun i j => A j i) l j = cof n A j l := by
  obtain ⟨k, rfl⟩ : ∃ k, n = k + 1 := ⟨n - 1, by omega⟩
  rw [cof_minor k l _ j hl hj, cof_minor k j _ l hj hl, ← Go.Det.dt_turn k (fun a b => A (skp j a) (skp l b))]
  grind
/-- Rows' sums divisible by M: the last factor is. -/
theorem gD_rowsum (hn : n ≤ 6) {k : Nat} (hk : n = k + 1) {M : Int} (h : ∀ i, i < n → M ∣ sumN (fun j => ent2 m i j) n) : M * ((gD m n k : Nat) : Int) ∣ ((gD m n n : Nat) : Int) := by
  have h64 := pow_le64 ⟨n, by omega⟩
  simp only at h64
  have key : M.natAbs * gD m n k ∣ gD m n n := by
    refine (gD_dvd hn n _).2 fun r c hr hc h1 h2 => ?_
    have b1 := full_bits ⟨n, by omega⟩ ⟨r, by omega⟩ hr h1
    have b2 := full_bits ⟨n, by omega⟩ ⟨c, by omega⟩ hc h2
    simp only at b1 b2
    have e0 : minD (ent2 m) (bits6 r) (bits6 c) = dt n (fun i j => ent2 m i j) := by
      unfold minD
      rw [b1, b2, List.length_range]
      exact Go.Det.dt_congr fun i j hi hj => by rw [range_getD hi, range_getD hj]
    obtain ⟨u, hu⟩ : ∃ u : Nat → Int, ∀ i, i < n → sumN (fun j => ent2 m i j) n = M * u i :=
      ⟨fun i => sumN (fun j => ent2 m i j) n / M, fun i hi => (Int.mul_ediv_cancel' (h i hi)).symm⟩
    have h3 := combR (Go.Det.alt_turn n) (fun j i => ent2 m i j) (fun _ => (1 : Int)) (r := 0) (by omega)
    rw [Int.one_mul] at h3
    have h4 : dt n (fun i j => upd (fun j i => ent2 m i j) 0 (fun i => sumN (fun k => 1 * ent2 m i k) n) j i) = dt n (fun i j => upd (fun j i => ent2 m i j) 0 (fun i => M * u i) j i) := by
      refine Go.Det.dt_congr fun i j hi hj => ?_
      unfold upd
      by_cases e : j = 0
      · rw [if_pos e, if_pos e]
        show sumN (fun k => 1 * ent2 m i k) n = M * u i
        rw [← hu i hi]; exact Go.Det.sumN_congr n fun k _ => by rw [Int.one_mul]
      · rw [if_neg e, if_neg e]
    have h5 := (Go.Det.alt_turn (R := Int) n).smul (fun j i => ent2 m i j) 0 M u (by omega)
    have h6 : dt n (fun i j => ent2 m i j) = M * dt n (fun i j => upd (fun j i => ent2 m i j) 0 u j i) := by rw [← h3, h4, h5]
    rw [e0, h6]
    have h7 : dt n (fun i j => upd (fun j i => ent2 m i j) 0 u j i) = sumN (fun j => u j * cof n (fun j i => ent2 m i j) 0 j) n := by
      rw [Go.Det.dt_turn n (fun j i => upd (fun j i => ent2 m i j) 0 u j i)]
      exact cof_sum (fun j i => ent2 m i j) (by omega) u
    rw [h7]
    have h8 : ((gD m n k : Nat) : Int) ∣ sumN (fun j => u j * cof n (fun j i => ent2 m i j) 0 j) n := by
      refine dvd_sum n fun j hj => Int.dvd_mul_of_dvd_right ?_
      rw [cof_turn n (ent2 m) (by omega) hj]
      have h9 := gD_cof (m := m) hn (k := k) (r := r) (c := c) (l := j) (j := 0) hr hc (by omega) (by omega) (by omega) (by omega)
      rw [b1, b2] at h9
      have e9 : cof (k + 1) (fun i j => ent2 m ((List.range n).getD i 0) ((List.range n).getD j 0)) j 0 = cof (k + 1) (ent2 m) j 0 := by
        unfold cof
        refine Go.Det.dt_congr fun a b ha hb => ?_
        unfold upd
        split
        · rfl
        · show ent2 m ((List.range n).getD a 0) ((List.range n).getD b 0) = ent2 m a b
          rw [range_getD (by omega), range_getD (by omega)]
      rw [e9] at h9
      have e10 : cof n (ent2 m) j 0 = cof (k + 1) (ent2 m) j 0 := by rw [← hk]
      rw [e10]; exact h9
    rw [Int.natCast_mul]
    obtain ⟨z, hz⟩ := h8
    rw [hz]
    have : ((M.natAbs : Nat) : Int) ∣ M := by
      rcases Int.natAbs_eq M with e | e
      · exact ⟨1, by omega⟩
      · exact ⟨-1, by omega⟩
    obtain ⟨y, hy⟩ := this
    exact ⟨y * z, by rw [show M * ((gD m n k : Nat) * z) = (((M.natAbs : Nat) : Int) * y) * ((gD m n k : Nat) * z) by rw [← hy]]; grind⟩
  have h9 := Int.natCast_dvd_natCast.2 key
  rw [Int.natCast_mul] at h9
  have : M * ((gD m n k : Nat) : Int) ∣ ((M.natAbs : Nat) : Int) * ((gD m n k : Nat) : Int) := by
    rcases Int.natAbs_eq M with e | e
    · rw [← e]; exact Int.dvd_refl _
    · refine ⟨-1, ?_⟩
      have e2 : ((M.natAbs : Nat) : Int) = -M := by omega
      rw [e2]; grind
  exact Int.dvd_trans this h9
end

/-- Cofactors of a matrix that takes v to 0. -/
theorem cof_kernel {R : Type} [Lean.Grind.CommRing R] {n : Nat} (A : Nat → Nat → R) (v : Nat → R) {r : Nat} (hr : r < n) (hv : v r * v r = 1) (hA : ∀ i, i < n → sumN (fun j => A i j * v j) n = 0) {l j j' : Nat} (hl : l < n) (hj : j < n) (hj' : j' < n) :
    v j' * cof n A l j = v j * cof n A l j' := by
  have h1 := (Go.Det.alt_dt (R := R) n).lin A l (v j') (-(v j)) (uni j) (uni j') hl
  obtain ⟨W, hW⟩ : ∃ W, upd A l (fun k => v j' * uni j k + -(v j) * uni j' k) = W := ⟨_, rfl⟩
  have hz : ∀ i, i < n → sumN (fun k => v k * W i k) n = 0 := by
    intro i hi
    rw [← hW]
    unfold upd
    by_cases e : i = l
    · rw [if_pos e]
      have : ∀ k, k < n → v k * (v j' * uni j k + -(v j) * uni j' k) = v j' * (v k * uni k j) + -(v j) * (v k * uni k j') := fun k _ => by unfold uni; grind
      rw [Go.Det.sumN_congr n this, Go.Det.sumN_lin, sum_uniR n v hj, sum_uniR n v hj']; grind
    · rw [if_neg e, ← hA i hi]
      exact Go.Det.sumN_congr n fun k _ => by grind
  have h2 := combR (Go.Det.alt_turn n) (fun j i => W i j) v hr
  have h3 : dt n (fun i j => upd (fun j i => W i j) r (fun i => sumN (fun k => v k * W i k) n) j i) = 0 := by
    have h4 := (Go.Det.alt_turn (R := R) n).smul (fun j i => W i j) r 0 (fun _ => 0) hr
    have h5 : (0 : R) * dt n (fun i j => upd (fun j i => W i j) r (fun _ => 0) j i) = 0 := by grind
    rw [h5] at h4
    rw [← h4]
    refine Go.Det.dt_congr fun i j hi _ => ?_
    unfold upd
    by_cases e : j = r
    · rw [if_pos e, if_pos e]
      show sumN (fun k => v k * W i k) n = 0 * 0
      rw [hz i hi]; grind
    · rw [if_neg e, if_neg e]
  have h6 : v r * dt n W = 0 := by rw [h3] at h2; exact h2.symm
  have h7 : dt n W = 0 := by
    have : dt n W = v r * v r * dt n W := by rw [hv]; grind
    rw [this, show v r * v r * dt n W = v r * (v r * dt n W) by grind, h6]; grind
  rw [hW, h7] at h1
  unfold cof
  grind

end Go.Proofs.Ytckopilciekfbaa

namespace Go.Proofs.Ytckopilciekfbaa
open Go.RowKit Go.Sl

/-- The word is a conjugate of the generator. -/
def Cj (r : List Int) (m : Nat) : Prop := ∃ y, IsWord y ∧ r = redL (y ++ [(m : Int) + 1] ++ invL y)
theorem Cj.word {r : List Int} {m : Nat} (h : Cj r m) (hm : m < 6) : IsWord r := by
  obtain ⟨y, hy, rfl⟩ := h
  refine ((hy.append ?_).append hy.inv).red
  intro x hx
  simp at hx
  omega
end Go.Proofs.Ytckopilciekfbaa

namespace Go.Proofs.Ytckopilciekfbaa
open Go.RowKit Go.Sl

theorem letter_bw {top : Int} (h : 0 < top) (x : Int) : letterOf top x ≠ 0 ∧ -top ≤ letterOf top x ∧ letterOf top x ≤ top := by
  have h1 := Int.emod_nonneg x (b := 2 * top) (by omega)
  have h2 := Int.emod_lt_of_pos x (b := 2 * top) (by omega)
  unfold letterOf
  split <;> omega
theorem wordL_bw {n : Int} (h : 1 < n) (raw : List Int) (most : Nat) : BWord n (wordL (n - 1) raw most) := by
  intro x hx
  obtain ⟨y, _, rfl⟩ := List.mem_map.1 hx
  have := letter_bw (top := n - 1) (by omega) y
  omega
end Go.Proofs.Ytckopilciekfbaa


/- The text of changes and what is parsed of a text: plain law. -/
import Derived.Test.YtpnbkoihglppnaaRung
namespace Go.Proofs.Ytpnbkoihglppnaa
open Go.RowKit Go.Sl

/-- The change that is told by the positions that stay. -/
def chgGo (P : Nat → Bool) (m : Nat) : Nat → Nat → Nat → Nat
  | 0, _, o => o
  | f + 1, i, o => if i < m then (if P i || P (i + 1) then chgGo P m f (i + 1) o else chgGo P m f (i + 2) (o ||| 2 ^ i)) else o
def has (tok : List UInt8) (k : Nat) : Bool := tok.contains (UInt8.ofNat (49 + k))
def chgOf (m : Nat) (tok : List UInt8) : Nat := chgGo (has tok) m 7 0 0
theorem chgGo_congr {P Q : Nat → Bool} {m : Nat} (h : ∀ k, k ≤ m → P k = Q k) (f : Nat) : ∀ i o, chgGo P m f i o = chgGo Q m f i o := by
  induction f with
  | zero => exact fun _ _ => rfl
  | succ f ih =>
    intro i o
    rw [chgGo, chgGo]
    by_cases hi : i < m
    · rw [if_pos hi, if_pos hi, h i (by omega), h (i + 1) (by omega), ih, ih]
    · rw [if_neg hi, if_neg hi]
def mk7 (b0 b1 b2 b3 b4 b5 b6 : Bool) : Nat := b0.toNat + 2 * b1.toNat + 4 * b2.toNat + 8 * b3.toNat + 16 * b4.toNat + 32 * b5.toNat + 64 * b6.toNat
theorem mk7_bits : ∀ b0 b1 b2 b3 b4 b5 b6 : Bool, mk7 b0 b1 b2 b3 b4 b5 b6 < 128 ∧ (mk7 b0 b1 b2 b3 b4 b5 b6).testBit 0 = b0 ∧ (mk7 b0 b1 b2 b3 b4 b5 b6).testBit 1 = b1 ∧ (mk7 b0 b1 b2 b3 b4 b5 b6).testBit 2 = b2 ∧ (mk7 b0 b1 b2 b3 b4 b5 b6).testBit 3 = b3 ∧ (mk7 b0 b1 b2 b3 b4 b5 b6).testBit 4 = b4 ∧ (mk7 b0 b1 b2 b3 b4 b5 b6).testBit 5 = b5 ∧ (mk7 b0 b1 b2 b3 b4 b5 b6).testBit 6 = b6 := by decide +kernel
theorem mask_bits (b0 b1 b2 b3 b4 b5 b6 : Bool) : ∃ q : Fin 128, q.val.testBit 0 = b0 ∧ q.val.testBit 1 = b1 ∧ q.val.testBit 2 = b2 ∧ q.val.testBit 3 = b3 ∧ q.val.testBit 4 = b4 ∧ q.val.testBit 5 = b5 ∧ q.val.testBit 6 = b6 :=
  have h := mk7_bits b0 b1 b2 b3 b4 b5 b6
  ⟨⟨_, h.1⟩, h.2⟩
theorem chgGo_right0 : ∀ q : Fin 128, ∀ m : Fin 7, chgGo (fun k => q.val.testBit k) m.val 7 0 0 < 2 ^ m.val ∧ chgGo (fun k => q.val.testBit k) m.val 7 0 0 < 64 ∧ chgGo (fun k => q.val.testBit k) m.val 7 0 0 &&& (2 * chgGo (fun k => q.val.testBit k) m.val 7 0 0) = 0 := by decide +kernel
theorem chgOf_right {m : Nat} (hm : m < 7) (tok : List UInt8) : Chg m (chgOf m tok) := by
  obtain ⟨q, h0, h1, h2, h3, h4, h5, h6⟩ := mask_bits (has tok 0) (has tok 1) (has tok 2) (has tok 3) (has tok 4) (has tok 5) (has tok 6)
  have e : chgOf m tok = chgGo (fun k => q.val.testBit k) m 7 0 0 := by
    refine chgGo_congr (fun k hk => ?_) 7 0 0
    rcases (show k = 0 ∨ k = 1 ∨ k = 2 ∨ k = 3 ∨ k = 4 ∨ k = 5 ∨ k = 6 by omega) with rfl | rfl | rfl | rfl | rfl | rfl | rfl
    · exact h0.symm
    · exact h1.symm
    · exact h2.symm
    · exact h3.symm
    · exact h4.symm
    · exact h5.symm
    · exact h6.symm
  have := chgGo_right0 q ⟨m, hm⟩
  simp only at this
  rw [e]
  exact ⟨_, rfl, this.1, this.2.1, this.2.2⟩
theorem chgOf_written0 : ∀ q : Fin 64, ∀ m : Fin 7, q.val < 2 ^ m.val → q.val &&& (2 * q.val) = 0 → chgOf m.val (writtenL q.val (m.val + 1)) = q.val := by decide +kernel
theorem written_bytes0 : ∀ q : Fin 64, ∀ m : Fin 7, writtenL q.val (m.val + 1) = [120] ∨ (writtenL q.val (m.val + 1) ≠ [] ∧ (writtenL q.val (m.val + 1)).all (fun b => b != 120 && b != 46) = true) := by decide +kernel

/-- One token's length. -/
def tokP (c : UInt8) : Bool := c != 120 && c != 46
def tokLen : List UInt8 → Nat
  | [] => 0
  | b :: t => if b = 120 then 1 else 1 + (t.takeWhile tokP).length
def skipDot : List UInt8 → List UInt8
  | [] => []
  | b :: t => if b = 46 then t else b :: t
def toks : Nat → List UInt8 → List (List UInt8)
  | 0, _ => []
  | f + 1, r => if r = [] then [] else r.take (tokLen r) :: toks f (skipDot (r.drop (tokLen r)))
theorem skipDot_cons (b : UInt8) (t : List UInt8) : skipDot (b :: t) = if b = 46 then t else b :: t := rfl
theorem tokLen_cons (b : UInt8) (t : List UInt8) : tokLen (b :: t) = if b = 120 then 1 else 1 + (t.takeWhile tokP).length := rfl
theorem skipDot_length (r : List UInt8) : (skipDot r).length ≤ r.length := by
  cases r with
  | nil => exact Nat.le_refl _
  | cons b t => rw [skipDot_cons]; split <;> simp
theorem tokLen_pos {r : List UInt8} (h : r ≠ []) : 1 ≤ tokLen r := by
  cases r with
  | nil => exact (h rfl).elim
  | cons b t => rw [tokLen_cons]; split <;> omega
theorem tokLen_le (r : List UInt8) : tokLen r ≤ r.length := by
  cases r with
  | nil => exact Nat.le_refl _
  | cons b t =>
    rw [tokLen_cons]
    have := (List.takeWhile_sublist (p := tokP) (l := t)).length_le
    split <;> simp <;> omega
theorem toks_any (f : Nat) : ∀ (g : Nat) (r : List UInt8), r.length ≤ f → r.length ≤ g → toks f r = toks g r := by
  induction f with
  | zero =>
    intro g r h _
    have : r = [] := List.eq_nil_of_length_eq_zero (by omega)
    subst this
    cases g with
    | zero => rfl
    | succ g => simp [toks]
  | succ f ih =>
    intro g r h1 h2
    cases g with
    | zero =>
      have : r = [] := List.eq_nil_of_length_eq_zero (by omega)
      subst this
      simp [toks]
    | succ g =>
      rw [toks, toks]
      by_cases hr : r = []
      · rw [if_pos hr, if_pos hr]
      · rw [if_neg hr, if_neg hr]
        have hp := tokLen_pos hr
        have hl := tokLen_le r
        have hs := skipDot_length (r.drop (tokLen r))
        rw [List.length_drop] at hs
        rw [ih g _ (by omega) (by omega)]
def toksL (r : List UInt8) : List (List UInt8) := toks r.length r
theorem toksL_nil : toksL [] = [] := rfl
theorem toksL_step {r : List UInt8} (h : r ≠ []) : toksL r = r.take (tokLen r) :: toksL (skipDot (r.drop (tokLen r))) := by
  have hp := tokLen_pos h
  have hl := tokLen_le r
  have hs := skipDot_length (r.drop (tokLen r))
  rw [List.length_drop] at hs
  obtain ⟨f, hf⟩ : ∃ f, r.length = f + 1 := ⟨r.length - 1, by omega⟩
  unfold toksL
  rw [hf, toks, if_neg h, toks_any f _ _ (by omega) (Nat.le_refl _)]
theorem toksL_length (f : Nat) : ∀ r, r.length ≤ f → (toksL r).length ≤ r.length := by
  induction f with
  | zero =>
    intro r h
    have : r = [] := List.eq_nil_of_length_eq_zero (by omega)
    subst this
    exact Nat.le_refl _
  | succ f ih =>
    intro r h
    by_cases hr : r = []
    · subst hr; exact Nat.le_refl _
    · have hp := tokLen_pos hr
      have hl := tokLen_le r
      have hs := skipDot_length (r.drop (tokLen r))
      rw [List.length_drop] at hs
      rw [toksL_step hr, List.length_cons]
      have := ih (skipDot (r.drop (tokLen r))) (by omega)
      omega

/-- The rest of a text behind what was written last. -/
def txtFrom (n : Nat) : List UInt8 → List Int → List UInt8
  | _, [] => []
  | b, c :: t => (if writtenL c.toNat n ≠ [120] ∧ b ≠ [120] then [46] else []) ++ writtenL c.toNat n ++ txtFrom n (writtenL c.toNat n) t
theorem txtTo_from (n : Nat) (cs : List Int) : ∀ k, k ≤ cs.length → (txtTo n cs k).1 ++ txtFrom n (txtTo n cs k).2 (cs.drop k) = txtFrom n [120] cs := by
  intro k
  induction k with
  | zero => intro _; simp [txtTo]
  | succ k ih =>
    intro hk
    have hlt : k < cs.length := by omega
    rw [← ih (by omega), List.drop_eq_getElem_cons hlt, txtFrom, txtTo, nth_lt hlt]
    simp
theorem textL_from (n : Nat) (cs : List Int) : textL n cs = txtFrom n [120] cs := by
  have := txtTo_from n cs cs.length (Nat.le_refl _)
  rw [List.drop_of_length_le (Nat.le_refl _)] at this
  rw [← this, txtFrom, List.append_nil]
  rfl
theorem take_while_app (l r : List UInt8) (hl : ∀ b ∈ l, tokP b = true) (hr : ∀ b t, r = b :: t → tokP b = false) : (l ++ r).takeWhile tokP = l := by
  induction l with
  | nil =>
    cases r with
    | nil => rfl
    | cons b t => simp [hr b t rfl]
  | cons a l ih =>
    rw [List.cons_append, List.takeWhile_cons, if_pos (hl a List.mem_cons_self), ih (fun b hb => hl b (List.mem_cons_of_mem _ hb))]
/-- The first byte behind a token. -/
theorem txtFrom_head {m : Nat} (hm : m < 7) (w : List UInt8) (hw : w ≠ [120]) (cs : List Int) (hc : ∀ c ∈ cs, Chg m c) : ∀ b t, txtFrom (m + 1) w cs = b :: t → tokP b = false := by
  intro b t h
  cases cs with
  | nil => simp [txtFrom] at h
  | cons c cs =>
    rw [txtFrom] at h
    by_cases hx : writtenL c.toNat (m + 1) = [120]
    · rw [hx] at h
      simp at h
      rw [← h.1]; decide
    · rw [if_pos ⟨hx, hw⟩] at h
      simp at h
      rw [← h.1]; decide
theorem skip_from {m : Nat} (hm : m < 7) (w : List UInt8) (cs : List Int) (hc : ∀ c ∈ cs, Chg m c) : skipDot (txtFrom (m + 1) w cs) = txtFrom (m + 1) [120] cs := by
  cases cs with
  | nil => rfl
  | cons c cs =>
    obtain ⟨q, rfl, h1, h2, h3⟩ := hc c List.mem_cons_self
    have hb := written_bytes0 ⟨q, h2⟩ ⟨m, hm⟩
    simp only at hb
    rw [txtFrom, txtFrom, Int.toNat_natCast]
    rw [if_neg (show ¬ (writtenL q (m + 1) ≠ [120] ∧ ([120] : List UInt8) ≠ [120]) from fun h => h.2 rfl)]
    by_cases hx : writtenL q (m + 1) = [120]
    · rw [if_neg (fun h => h.1 hx), hx]
      simp [skipDot]
    · obtain ⟨hne, hall⟩ := hb.resolve_left hx
      by_cases hw : w = [120]
      · rw [if_neg (fun h => h.2 hw)]
        cases hq : writtenL q (m + 1) with
        | nil => exact (hne hq).elim
        | cons a l =>
          rw [hq] at hall
          have ha := List.all_eq_true.1 hall a List.mem_cons_self
          have : a ≠ 46 := by
            intro e
            subst e
            simp at ha
          simp [skipDot, this]
      · rw [if_pos ⟨hx, hw⟩]
        simp [skipDot]
theorem toks_text {m : Nat} (hm : m < 7) (cs : List Int) (hc : ∀ c ∈ cs, Chg m c) : toksL (txtFrom (m + 1) [120] cs) = cs.map (fun c => writtenL c.toNat (m + 1)) := by
  induction cs with
  | nil => rfl
  | cons c cs ih =>
    have hct : ∀ c ∈ cs, Chg m c := fun x hx => hc x (List.mem_cons_of_mem _ hx)
    obtain ⟨q, rfl, h1, h2, h3⟩ := hc c List.mem_cons_self
    have hb := written_bytes0 ⟨q, h2⟩ ⟨m, hm⟩
    simp only at hb
    rw [txtFrom, Int.toNat_natCast, if_neg (show ¬ (writtenL q (m + 1) ≠ [120] ∧ ([120] : List UInt8) ≠ [120]) from fun h => h.2 rfl), List.nil_append, List.map_cons, Int.toNat_natCast]
    obtain ⟨S, hS⟩ : ∃ S, writtenL q (m + 1) = S := ⟨_, rfl⟩
    rw [hS] at hb ⊢
    have hne : S ≠ [] := by rcases hb with rfl | h; simp; exact h.1
    have htl : tokLen (S ++ txtFrom (m + 1) S cs) = S.length := by
      by_cases hx : S = [120]
      · subst hx
        simp [tokLen]
      · obtain ⟨_, hall⟩ := hb.resolve_left hx
        cases S with
        | nil => exact (hne rfl).elim
        | cons a l =>
          have hall' := List.all_eq_true.1 hall
          have ha : a ≠ 120 := by
            intro e
            subst e
            have := hall' 120 List.mem_cons_self
            simp at this
          rw [List.cons_append, tokLen, if_neg ha, take_while_app l _ (fun b hb => hall' b (List.mem_cons_of_mem _ hb)) (txtFrom_head hm _ hx cs hct)]
          simp; omega
    rw [toksL_step (by simp [hne]), htl, List.take_left, List.drop_left, skip_from hm S cs hct, ih hct]
/-- What is parsed of the text of changes. -/
theorem parse_text {m : Nat} (hm : m < 7) (cs : List Int) (hc : ∀ c ∈ cs, Chg m c) : (toksL (textL (m + 1) cs)).map (fun t => ((chgOf m t : Nat) : Int)) = cs := by
  rw [textL_from, toks_text hm cs hc, List.map_map]
  conv => rhs; rw [← List.map_id cs]
  refine List.map_congr_left fun c hcm => ?_
  obtain ⟨q, rfl, h1, h2, h3⟩ := hc c hcm
  have := chgOf_written0 ⟨q, h2⟩ ⟨m, hm⟩ h1 h3
  simp only at this
  simp [this]
end Go.Proofs.Ytpnbkoihglppnaa

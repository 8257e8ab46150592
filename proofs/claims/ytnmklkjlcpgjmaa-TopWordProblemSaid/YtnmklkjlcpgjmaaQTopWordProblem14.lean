/- Arguments as data: what a bool that came in reads as. -/
import Derived.Test.YtnmklkjlcpgjmaaQTopWordProblem0
import Derived.Test.YtnmklkjlcpgjmaaQTopWordProblem1
import Derived.Test.YtnmklkjlcpgjmaaQTopWordProblem2
import Derived.Test.YtnmklkjlcpgjmaaQTopWordProblem5
import Derived.Test.YtnmklkjlcpgjmaaQTopWordProblem11
import Derived.Test.YtnmklkjlcpgjmaaQTopWordProblem12
import Derived.Test.YtnmklkjlcpgjmaaQTopWordProblem13
import Derived.ProofKit
import Derived.OpenShut
namespace Go.Proofs.Ytnmklkjlcpgjmaa
open Go.RowKit Go.Sl

section
variable {n r : Nat} {D A B : List Int}
/-- At most g vertices between Q and Q shifted that are not above a letter. -/
def SpanNot (n r : Nat) (D : List Int) (g : Nat) : Prop := ∀ Q, LtW n Q → ∀ i, i + 1 < n → ∀ Z : List (List Int), (∀ z ∈ Z, LtW n z ∧ LeB n Q z ∧ LeB n z (Q ++ powB (r : Int) D) ∧ ¬ LeB n (Q ++ [ltr i]) z) → Z.Pairwise (fun a b => ¬ BE n a b) → Z.length ≤ g
open Classical in
noncomputable def cntA (n : Nat) (Q : List Int) (Z : List (List Int)) : Nat := Z.countP fun z => decide (LeB n Q z)
open Classical in
theorem cntA_step (_hn : n ≤ 1000) (_hD : IsUp n D (hf n)) {g : Nat} (hg : SpanNot n r D g) {Q : List Int} (lQ : LtW n Q) {i : Nat} (hi : i + 1 < n) {Z : List (List Int)} (hZ : ∀ z ∈ Z, LtW n z ∧ LeB n z (Q ++ powB (r : Int) D)) (hd : Z.Pairwise fun a b => ¬ BE n a b) : cntA n Q Z ≤ cntA n (Q ++ [ltr i]) Z + g := by
  obtain ⟨F, hF⟩ : ∃ F, F = Z.filter fun z => decide (LeB n Q z ∧ ¬ LeB n (Q ++ [ltr i]) z) := ⟨_, rfl⟩
  have hsub : List.Sublist F Z := by rw [hF]; exact List.filter_sublist
  have h1 := hg Q lQ i hi F (fun z hz => by
    have h3 := hZ z (hsub.subset hz)
    rw [hF] at hz
    have h4 := (List.mem_filter.1 hz).2
    rw [decide_eq_true_eq] at h4
    exact ⟨h3.1, h4.1, h3.2, h4.2⟩) (hd.sublist hsub)
  rw [hF, ← List.countP_eq_length_filter] at h1
  have h2 : cntA n Q Z ≤ cntA n (Q ++ [ltr i]) Z + Z.countP fun z => decide (LeB n Q z ∧ ¬ LeB n (Q ++ [ltr i]) z) := by
    clear h1 hZ hd hsub hF F
    unfold cntA
    induction Z with
    | nil => simp
    | cons z Z ih =>
      rw [List.countP_cons, List.countP_cons, List.countP_cons]
      by_cases a : LeB n Q z
      · by_cases b : LeB n (Q ++ [ltr i]) z
        · simp only [a, b, decide_true, not_true_eq_false, and_false, decide_false, if_true, Bool.false_eq_true, if_false]
          omega
        · simp only [a, b, decide_true, not_false_eq_true, and_self, decide_false, if_true, Bool.false_eq_true, if_false]
          omega
      · simp only [a, decide_false, false_and, Bool.false_eq_true, if_false]
        omega
  omega
theorem cntA_word (hn : n ≤ 1000) (hD : IsUp n D (hf n)) {g : Nat} (hg : SpanNot n r D g) {Z : List (List Int)} (hd : Z.Pairwise fun a b => ¬ BE n a b) (lZ : ∀ z ∈ Z, LtW n z) : ∀ (t Q : List Int), LtW n Q → PosW n t → (∀ z ∈ Z, LeB n z (Q ++ powB (r : Int) D)) → cntA n Q Z ≤ cntA n (Q ++ t) Z + t.length * g := by
  intro t
  induction t with
  | nil => intro Q _ _ _; rw [List.append_nil]; simp
  | cons x t ih =>
    intro Q lQ ht hZ
    obtain ⟨i, hi, rfl⟩ := ltr_of ht.hd
    have h1 := cntA_step hn hD hg lQ hi (fun z hz => ⟨lZ z hz, hZ z hz⟩) hd
    have h2 := ih (Q ++ [ltr i]) (lQ.app (PosW.one (pos_ltr hi)).lt) ht.tl fun z hz => (hZ z hz).trans (k_mono hn hD (le_up hi))
    have e : (Q ++ [ltr i]) ++ t = Q ++ ltr i :: t := by simp
    rw [e] at h2
    rw [List.length_cons, Nat.succ_mul]
    omega
theorem cntA_congr {Q Q' : List Int} (h : BE n Q Q') (Z : List (List Int)) : cntA n Q Z = cntA n Q' Z := by
  classical
  unfold cntA
  refine List.countP_congr fun z _ => ?_
  simp only [decide_eq_true_eq]
  exact ⟨fun k => k.congr h (.refl _), fun k => k.congr h.symm (.refl _)⟩
theorem few_chain2 (hn : n ≤ 1000) (h2 : 2 ≤ n) (hD : IsUp n D (hf n)) (hA : LtW n A) {g : Nat} (hg : SpanNot n r D g) : ∀ (m : Nat) (Q : List Int) (Z : List (List Int)), LtW n Q → LeB n A Q → exB Q - exB A ≤ m → (∀ z ∈ Z, LtW n z ∧ LeB n A z ∧ LeB n z (Q ++ powB (r : Int) D)) → Z.Pairwise (fun a b => ¬ BE n a b) → Z.Pairwise (fun a b => LeB n b (a ++ powB (r : Int) D)) → Z.length ≤ cntA n Q Z + m * (g + 1) := by
  classical
  intro m
  induction m using Nat.strongRecOn with
  | _ m ih =>
    intro Q Z lQ hQ he hZ hd hp
    rcases first_not (fun z => LeB n Q z) Z with h | ⟨Z1, z, Z2, rfl, h1, h3⟩
    · have : cntA n Q Z = Z.length := by
        unfold cntA
        rw [List.countP_eq_length]
        exact fun z hz => decide_eq_true (h z hz)
      omega
    · have hz := hZ z (by simp)
      obtain ⟨G, lG, gA, gQ, gz, gr⟩ := gcd_exists hn h2 hD hA hQ hz.2.1
      have hlt : exB G < exB Q := by
        have h4 := gQ.exLe
        rcases Int.lt_or_eq_of_le h4 with h5 | h5
        · exact h5
        · exact absurd (gz.congr (le_eq gQ h5) (.refl _)) h3
      have d1 := List.pairwise_append.1 hd
      have p1 := List.pairwise_append.1 hp
      have hGA := gA.exLe
      have hb : ∀ b ∈ Z2, LtW n b ∧ LeB n A b ∧ LeB n b (G ++ powB (r : Int) D) := fun b hb => by
        have hb3 := hZ b (by simp [hb])
        refine ⟨hb3.1, hb3.2.1, ?_⟩
        have k1 := (List.pairwise_cons.1 p1.2.1).1 b hb
        exact le_unshift hn hD (gr _ (hb3.1.app (powB_lt hD.lt _)) (le_shift hn hD hb3.2.2) (le_shift hn hD k1))
      have d2 := (List.pairwise_cons.1 d1.2.1).2
      have h5 := ih (exB G - exB A).toNat (by omega) G Z2 lG gA (by omega) hb d2 (List.pairwise_cons.1 p1.2.1).2
      obtain ⟨t, ht, ht2⟩ := gQ
      have h6 := cntA_word hn hD hg d2 (fun b hb2 => (hb b hb2).1) t G lG ht fun b hb2 => (hb b hb2).2.2
      rw [cntA_congr ht2] at h6
      have ext := ht2.ex
      rw [exB_append, ht.ex] at ext
      have c1 : cntA n Q (Z1 ++ z :: Z2) = Z1.length + cntA n Q Z2 := by
        unfold cntA
        rw [List.countP_append, List.countP_cons, decide_eq_false h3]
        have : Z1.countP (fun z => decide (LeB n Q z)) = Z1.length := by
          rw [List.countP_eq_length]
          exact fun z hz => decide_eq_true (h1 z hz)
        rw [this]
        simp
      rw [c1, List.length_append, List.length_cons]
      have hs : t.length + (exB G - exB A).toNat ≤ m := by omega
      have hmul := Nat.mul_le_mul_right (g + 1) hs
      rw [Nat.add_mul, Nat.mul_succ t.length g] at hmul
      have ht1 : 1 ≤ t.length := by omega
      omega
/-- A path of at most r positive letters. -/
theorem few_low2 (hn : n ≤ 1000) (h2 : 2 ≤ n) (hD : IsUp n D (hf n)) (hA : LtW n A) (hA0 : LeB n A []) {f g m : Nat} (hf : Span n r D f) (hg : SpanNot n r D g) (hm : - exB A ≤ m) : Few n r D A B (f + m * (g + 1)) := fun Z hZ hd hp => by
  have e0 : exB ([] : List Int) = 0 := rfl
  have h1 := few_chain2 hn h2 hD hA hg m [] Z (fun x hx => by simp at hx) hA0 (by omega) (fun z hz => ⟨(hZ z hz).1, (hZ z hz).2.1.1, by simpa using (hZ z hz).2.2⟩) hd hp
  have h3 : cntA n [] Z ≤ f := by
    classical
    have hsub : List.Sublist (Z.filter fun z => decide (LeB n [] z)) Z := List.filter_sublist
    have := hf [] (fun x hx => by simp at hx) (Z.filter fun z => decide (LeB n [] z)) (fun z hz => by
      have h4 := (List.mem_filter.1 hz).2
      rw [decide_eq_true_eq] at h4
      exact ⟨(hZ z (hsub.subset hz)).1, h4, by simpa using (hZ z (hsub.subset hz)).2.2⟩) (hd.sublist hsub)
    rw [← List.countP_eq_length_filter] at this
    unfold cntA
    refine Nat.le_trans (Nat.le_of_eq ?_) this
    refine List.countP_congr fun z _ => ?_
    simp only [decide_eq_true_eq]
  omega
end
end Go.Proofs.Ytnmklkjlcpgjmaa

namespace Go.Proofs.Ytnmklkjlcpgjmaa
open Go.RowKit Go.Sl

/-! ### Words of one strand less, shifted -/
def shU (w : List Int) : List Int := w.map fun x => x + x.sign
theorem shU_append (a b : List Int) : shU (a ++ b) = shU a ++ shU b := by simp [shU]
theorem sh_abs {x : Int} (h : x ≠ 0) : (x + x.sign).natAbs = x.natAbs + 1 := by
  rcases Int.lt_or_lt_of_ne h with h | h
  · rw [sgn_neg h]; omega
  · rw [sgn_pos h]; omega
theorem sh_lt {n : Nat} {x : Int} (h : LtB n x) : LtB (n + 1) (x + x.sign) := ⟨by have := sh_abs h.1; omega, by rw [sh_abs h.1]; have := h.2; omega⟩
theorem shU_BE {n : Nat} {u v : List Int} (h : BE n u v) : BE (n + 1) (shU u) (shU v) := by
  induction h with
  | refl u => exact .refl _
  | symm _ ih => exact ih.symm
  | trans _ _ ih ih2 => exact ih.trans ih2
  | ctx a b _ ih => rw [shU_append, shU_append, shU_append, shU_append]; exact .ctx _ _ ih
  | @cancel x h =>
    have e : shU [x, -x] = [x + x.sign, -(x + x.sign)] := by
      simp only [shU, List.map_cons, List.map_nil, Int.sign_neg]
      congr 2
      omega
    rw [e]
    exact .cancel (sh_lt h)
  | @far x y hx hy h =>
    have h1 := sh_abs hx.1
    have h2 := sh_abs hy.1
    have h3 : (x + x.sign).natAbs + 1 < (y + y.sign).natAbs ∨ (y + y.sign).natAbs + 1 < (x + x.sign).natAbs := by omega
    exact BE.far (x := x + x.sign) (y := y + y.sign) (sh_lt hx) (sh_lt hy) h3
  | @braid i h0 h =>
    have s1 : ((i : Nat) : Int).sign = 1 := sgn_pos (by omega)
    have s2 : ((i + 1 : Nat) : Int).sign = 1 := sgn_pos (by omega)
    have := BE.braid (n := n + 1) (i := i + 1) (by omega) (by omega)
    simp only [shU, List.map_cons, List.map_nil]
    rw [s1, s2]
    exact this
theorem shU_pos {n : Nat} {w : List Int} (h : PosW n w) : PosW (n + 1) (shU w) ∧ ∀ x ∈ shU w, 1 < x := by
  refine ⟨fun x hx => ?_, fun x hx => ?_⟩
  · obtain ⟨y, hy, rfl⟩ := List.mem_map.1 hx
    have := h y hy
    show 0 < y + y.sign ∧ y + y.sign < _
    rw [sgn_pos this.1]; omega
  · obtain ⟨y, hy, rfl⟩ := List.mem_map.1 hx
    have := h y hy
    show 1 < y + y.sign
    rw [sgn_pos this.1]; omega
def shD (w : List Int) : List Int := w.map fun x => x - x.sign
theorem shD_lt {n : Nat} {w : List Int} (h : LtW (n + 1) w) (hf : SFree 1 w) : LtW n (shD w) ∧ shU (shD w) = w := by
  refine ⟨fun x hx => ?_, ?_⟩
  · obtain ⟨y, hy, rfl⟩ := List.mem_map.1 hx
    have h1 := h y hy
    have h2 := hf y hy
    rcases Int.lt_or_lt_of_ne h1.1 with h3 | h3
    · rw [sgn_neg h3]; exact ⟨by omega, by have := h1.2; omega⟩
    · rw [sgn_pos h3]; exact ⟨by omega, by have := h1.2; omega⟩
  · unfold shU shD
    rw [List.map_map]
    conv => rhs; rw [← List.map_id w]
    refine List.map_congr_left fun y hy => ?_
    have h1 := h y hy
    have h2 := hf y hy
    show y - y.sign + (y - y.sign).sign = y
    rcases Int.lt_or_lt_of_ne h1.1 with h3 | h3
    · rw [sgn_neg h3, sgn_neg (by omega)]; omega
    · rw [sgn_pos h3, sgn_pos (by omega)]; omega
/-- A word of letters 2 and above is a fraction of positive ones. -/
theorem frac {n : Nat} (hn : n ≤ 999) {h : List Int} (hl : LtW (n + 1) h) (hf0 : SFree 1 h) : ∃ a b, PosW (n + 1) a ∧ PosW (n + 1) b ∧ (∀ x ∈ a, 1 < x) ∧ (∀ x ∈ b, 1 < x) ∧ BE (n + 1) (a ++ h) b := by
  obtain ⟨D, hD⟩ := up_exists (n := n) (by omega) _ (pn_hf (by omega))
  obtain ⟨l1, e1⟩ := shD_lt hl hf0
  obtain ⟨t, ht, he⟩ := word_above (by omega) hD l1 (m := (negN (shD h) : Int)) (Int.le_refl _)
  have hp : PosW n (powB (negN (shD h) : Int) D) := powB_pos hD.posW (by omega)
  have h1 := he.pre (powB (negN (shD h) : Int) D)
  have h2 := (powB_neg hD.lt (negN (shD h) : Int)).post t
  have h3 : BE n (powB (negN (shD h) : Int) D ++ shD h) t := by
    simp only [List.append_assoc, List.nil_append] at h1 h2
    exact h1.symm.trans h2
  have h4 := shU_BE h3
  rw [shU_append, e1] at h4
  exact ⟨_, _, (shU_pos hp).1, (shU_pos ht).1, (shU_pos hp).2, (shU_pos ht).2, h4⟩
section
variable {n : Nat} {D A B : List Int}
/-- A positive word that is equal to one without the letter 1 has no letter 1. -/
theorem pos_sup {w w' : List Int} (hp : PosW n w') (hf : SFree 1 w) (lw : LtW n w) (h : BE n w w') : ∀ x ∈ w', 1 < x := by
  intro z hz
  have h0 := hp z hz
  apply Classical.byContradiction
  intro hle
  have hz1 : z = 1 := by omega
  refine bey_irr (n := n) (a := []) (b := w') (k := 1) (by decide) (.inl rfl) (fun x hx => by simp at hx) ⟨w', ⟨fun y hy => ?_, z, hz, by rw [hz1]; rfl⟩, hp.lt, by simpa using BE.refl w'⟩ (Sam.symm ⟨w, hf, lw, by simpa using h⟩)
  have := hp y hy
  exact ⟨by omega, fun _ => by omega⟩
theorem sfree_of {w : List Int} (h : ∀ x ∈ w, 1 < x) : SFree 1 w := fun x hx => by have := h x hx; omega
/-- Two vertices of one coset: their meet is in it. -/
theorem meet_coset (hn : n ≤ 998) (h2 : 2 ≤ n + 1) {D : List Int} (hD : IsUp (n + 1) D (hf (n + 1))) {A z z' : List Int} (hA : LtW (n + 1) A) (hz : LeB (n + 1) A z) (hz' : LeB (n + 1) A z') (lz : LtW (n + 1) z) (hs : Sam (n + 1) 1 z z') :
    ∃ G p p', LtW (n + 1) G ∧ LeB (n + 1) A G ∧ PosW (n + 1) p ∧ PosW (n + 1) p' ∧ (∀ x ∈ p, 1 < x) ∧ (∀ x ∈ p', 1 < x) ∧ BE (n + 1) (G ++ p) z ∧ BE (n + 1) (G ++ p') z' := by
  obtain ⟨G, lG, gA, ⟨p, hp, ep⟩, ⟨p', hp', ep'⟩, gr⟩ := gcd_exists (by omega) h2 hD hA hz hz'
  obtain ⟨h, hfr, lh, eh⟩ := hs
  obtain ⟨a, b, pa, pb, sa, sb, hab⟩ := frac (by omega) lh hfr
  -- z' = z h, a h = b: c = z a^-1 lies below z and z'... the other way: x = a p^-1
  have la := pa.lt
  -- c := z ++ invB a is below z and z'
  have hc1 : LeB (n + 1) (z ++ invB a) z := ⟨a, pa, by
    have := (BE.invMul la).pre z
    rw [List.append_nil] at this
    rw [List.append_assoc]; exact this⟩
  have hc2 : LeB (n + 1) (z ++ invB a) z' := ⟨b, pb, by
    have h1 := hab.symm.pre (z ++ invB a)
    have h3 := ((BE.invMul la).pre z).post h
    simp only [List.append_assoc, List.append_nil] at h1 h3 ⊢
    exact h1.trans (h3.trans eh)⟩
  have lc : LtW (n + 1) (z ++ invB a) := lz.app (invB_lt la)
  obtain ⟨x, hx, ex⟩ := gr _ lc hc1 hc2
  -- z a^-1 x = G, G p = z: x p = a
  have e1 : BE (n + 1) (x ++ p) a := by
    have h1 := (ex.post p).trans ep
    have h3 := hc1
    have h4 : BE (n + 1) (z ++ invB a ++ (x ++ p)) (z ++ invB a ++ a) := by
      have h5 := (BE.invMul la).pre z
      simp only [List.append_assoc, List.append_nil] at h1 h5 ⊢
      exact h1.trans h5.symm
    exact h4.cancelL lc
  have e2 : BE (n + 1) (x ++ p') b := by
    have h1 := (ex.post p').trans ep'
    have h5 := hab.symm.pre (z ++ invB a)
    have h6 := ((BE.invMul la).pre z).post h
    have h4 : BE (n + 1) (z ++ invB a ++ (x ++ p')) (z ++ invB a ++ b) := by
      simp only [List.append_assoc, List.append_nil] at h1 h5 h6 ⊢
      exact h1.trans (h5.trans (h6.trans eh)).symm
    exact h4.cancelL lc
  have s1 := pos_sup (hx.app hp) (sfree_of sa) la e1.symm
  have s2 := pos_sup (hx.app hp') (sfree_of sb) pb.lt e2.symm
  exact ⟨G, p, p', lG, gA, hp, hp', fun y hy => s1 y (by simp [hy]), fun y hy => s2 y (by simp [hy]), ep, ep'⟩
/-- All vertices of a list in one coset. -/
theorem meet_all (hn : n ≤ 998) (h2 : 2 ≤ n + 1) {D : List Int} (hD : IsUp (n + 1) D (hf (n + 1))) {A V : List Int} (hA : LtW (n + 1) A) : ∀ (Z : List (List Int)), Z ≠ [] → (∀ z ∈ Z, LtW (n + 1) z ∧ LeB (n + 1) A z ∧ Sam (n + 1) 1 V z) → ∃ G, LtW (n + 1) G ∧ LeB (n + 1) A G ∧ Sam (n + 1) 1 V G ∧ ∀ z ∈ Z, ∃ t, PosW (n + 1) t ∧ (∀ x ∈ t, 1 < x) ∧ BE (n + 1) (G ++ t) z := by
  intro Z
  induction Z with
  | nil => intro h; exact absurd rfl h
  | cons z Z ih =>
    intro _ hZ
    have hz := hZ z (by simp)
    by_cases h0 : Z = []
    · subst h0
      refine ⟨z, hz.1, hz.2.1, hz.2.2, fun y hy => ⟨[], posW_nil, fun x hx => by simp at hx, ?_⟩⟩
      rw [List.mem_singleton.1 hy, List.append_nil]
      exact .refl _
    · obtain ⟨G, lG, gA, gV, hG⟩ := ih h0 fun y hy => hZ y (by simp [hy])
      obtain ⟨G', p, p', lG', gA', hp, hp', sp, sp', ep, ep'⟩ := meet_coset hn h2 hD hA gA hz.2.1 lG (gV.symm.trans hz.2.2)
      refine ⟨G', lG', gA', gV.trans (Sam.symm ⟨p, sfree_of sp, hp.lt, ep⟩), fun y hy => ?_⟩
      rcases List.mem_cons.1 hy with rfl | hy
      · exact ⟨p', hp', sp', ep'⟩
      · obtain ⟨t, ht, st, et⟩ := hG y hy
        refine ⟨p ++ t, hp.app ht, fun x hx => (List.mem_append.1 hx).elim (sp x) (st x), ?_⟩
        have := (ep.post t).trans et
        simpa using this
end
end Go.Proofs.Ytnmklkjlcpgjmaa

namespace Go.Proofs.Ytnmklkjlcpgjmaa
open Go.RowKit Go.Sl

def maskNot (n i : Nat) : Msk := (List.range (n - 1)).map fun j => decide (j ≠ i)
theorem sub_not {n i : Nat} {a : List Int} (h : ¬ dn a i) : subM (ldP n a) (maskNot n i) = true := by
  unfold subM maskNot ldP
  rw [List.zip_map', List.all_map, List.all_eq_true]
  intro j _
  simp only [Function.comp]
  by_cases e : j = i
  · subst e
    rw [decide_eq_false (show ¬ nth a (j + 1) < nth a j from h)]; simp
  · rw [decide_eq_true (show j ≠ i from e)]; simp
section
variable {n r : Nat} {D A B : List Int}
theorem front_le (hn : n ≤ 1000) {a : List Int} {T _y : List (List Int)} {w : List Int} (g : Good n (a :: T)) {i : Nat} (hi : i + 1 < n) (hd : dn a i) (hw : WdF n (a :: T) w) : ∃ t, PosW n t ∧ BE n (ltr i :: t) w := by
  have ha := g.hd
  obtain ⟨u, hu⟩ := up_exists hn _ (ha.swapAt hi)
  obtain ⟨v, hv⟩ := WdF.exists hn T g.tl
  have h1 := front2 hn ha hi hd hu
  have h2 : WdF n (a :: T) ((ltr i :: u) ++ v) := .cons h1 hv
  exact ⟨u ++ v, hu.posW.app hv.posW, h2.uniq hn hw⟩
theorem span_not (hn : n ≤ 1000) (h2 : 2 ≤ n) (hD : IsUp n D (hf n)) (_hr : 0 < r) {g : Nat} (hg : ∀ i, i + 1 < n → cntQ (triP n) r (maskNot n i) ≤ g) : SpanNot n r D g := by
  intro Q lQ i hi Z hZ hd
  refine Nat.le_trans ?_ (Nat.le_trans (cntP_le (triP n) r (r * D.length) (maskNot n i)) (hg i hi))
  rw [← seqsP_len]
  have := dist_len (X := (seqsP n r (r * D.length) (maskNot n i)).map fun T => Q ++ wdOf n T) (fun z hz => ?_) hd
  · simpa using this
  · obtain ⟨lz, ⟨t, ht, h3⟩, ⟨u, hu, h4⟩, hno⟩ := hZ z hz
    have h6 : BE n (Q ++ (t ++ u)) (Q ++ powB r D) := by
      have a1 := (h3.post u).trans h4
      simpa using a1
    have h7 := h6.cancelL lQ
    obtain ⟨T, y, gT, ti, hlen, htot, hy, hyt⟩ := tight_of hn h2 hD ht hu h7
    have e1 := h7.ex
    rw [exB_append, ht.ex, hu.ex, powB_ex hD.posW] at e1
    refine ⟨Q ++ wdOf n T, List.mem_map.2 ⟨T, mem_seqsP T r _ _ hlen gT ti ?_ ?_, rfl⟩, ?_⟩
    · rw [htot]
      have : (r : Int) * (D.length : Int) = ((r * D.length : Nat) : Int) := by rw [Int.natCast_mul]
      omega
    · rintro a T' rfl
      refine sub_not fun hdn => hno ?_
      obtain ⟨s, hs, es⟩ := front_le (_y := []) hn gT hi hdn hy
      refine ⟨s, hs, ?_⟩
      have h8 := ((es.trans hyt).pre Q).trans h3
      simpa using h8
    · have h8 := ((wdOf_spec hy).uniq hn hy).trans hyt
      exact h3.symm.trans (h8.symm.pre Q)

/-! ### Sequences of given permutations -/
def seqsG (Ps : List (List Int)) (n : Nat) : Nat → Msk → List (List (List Int))
  | 0, _ => [[]]
  | m + 1, K => Ps.flatMap fun a => if subM (ldP n a) K = true then (seqsG Ps n m (rdP n a)).map (a :: ·) else []
def triG (Ps : List (List Int)) (n : Nat) : List (Msk × Msk × Nat) := Ps.map fun a => (ldP n a, rdP n a, 0)
theorem seqsG_len (Ps : List (List Int)) (n : Nat) : ∀ m K, (seqsG Ps n m K).length = cntQ (triG Ps n) m K := by
  intro m
  induction m with
  | zero => intro K; rfl
  | succ m ih =>
    intro K
    rw [seqsG, cntQ, len_flatMapP]
    have e : ∀ f : Msk × Msk × Nat → Nat, (triG Ps n).map f = Ps.map fun a => f (ldP n a, rdP n a, 0) := fun f => by rw [triG, List.map_map]; rfl
    rw [e]
    congr 1
    refine List.map_congr_left fun a _ => ?_
    show (if subM (ldP n a) K = true then _ else _ : List (List (List Int))).length = if subM (ldP n a) K = true then _ else 0
    split
    · rw [List.length_map, ih]
    · rfl
theorem mem_seqsG {Ps : List (List Int)} : ∀ (T : List (List Int)) (m : Nat) (K : Msk), T.length = m → Good n T → Tight n T → (∀ a ∈ T, a ∈ Ps) → (∀ a T', T = a :: T' → subM (ldP n a) K = true) → T ∈ seqsG Ps n m K := by
  intro T
  induction T with
  | nil => intro m K hm _ _ _ _; subst hm; simp [seqsG]
  | cons a T ih =>
    intro m K hm g t hP hK
    obtain ⟨m, rfl⟩ : ∃ k, m = k + 1 := ⟨T.length, by simpa using hm.symm⟩
    rw [seqsG]
    refine List.mem_flatMap.2 ⟨a, hP a (by simp), ?_⟩
    rw [if_pos (hK a T rfl)]
    refine List.mem_map.2 ⟨T, ih m (rdP n a) (by simpa using hm) g.tl t.tl (fun b hb => hP b (by simp [hb])) ?_, rfl⟩
    rintro b T' rfl
    refine ld_sub fun i hi hb => ?_
    have h1 := t.pair i hi hb
    exact (up_or g.hd hi).resolve_left h1
theorem isUp_fix {u a : List Int} (h : IsUp n u a) (h0 : 0 < n) : (∀ x ∈ u, 1 < x) → nth a 0 = 0 := by
  induction h with
  | nil => intro _; rw [nth_iota n 0 h0]; rfl
  | @snoc w f j h hj hu ih =>
    intro hx
    have h1 := ih fun x hx2 => hx x (by simp [hx2])
    have h2 := hx (ltr j) (by simp)
    unfold ltr at h2
    by_cases hl : 0 < f.length
    · rw [nth_swapV f j 0 hl, h1]
      unfold swV
      grind
    · have : f = [] := List.eq_nil_of_length_eq_zero (by omega)
      subst this
      rfl
theorem wdF_fix {T : List (List Int)} {y : List Int} (h : WdF n T y) (h0 : 0 < n) : (∀ x ∈ y, 1 < x) → ∀ a ∈ T, nth a 0 = 0 := by
  induction h with
  | nil => intro _ a ha; simp at ha
  | cons h k ih =>
    intro hx a ha
    rcases List.mem_cons.1 ha with rfl | ha
    · exact isUp_fix h h0 fun x hx2 => hx x (by simp [hx2])
    · exact ih (fun x hx2 => hx x (by simp [hx2])) a ha
def fixP (n : Nat) : List (List Int) := (allP n).filter fun a => decide (nth a 0 = 0)
end
section
variable {n s : Nat} {D A B V : List Int}
/-- The vertices of the interval in one coset. -/
theorem coset_few (hn : n ≤ 998) (h2 : 2 ≤ n + 1) (hD : IsUp (n + 1) D (hf (n + 1))) (hA : LtW (n + 1) A) (hB : LeB (n + 1) B (A ++ powB (s : Int) D)) (Z : List (List Int)) (hZ : ∀ z ∈ Z, LtW (n + 1) z ∧ InB (n + 1) A B z ∧ Sam (n + 1) 1 V z) (hd : Z.Pairwise fun a b => ¬ BE (n + 1) a b) : Z.length ≤ cntQ (triG (fixP (n + 1)) (n + 1)) s (fullM (n + 1)) := by
  by_cases h0 : Z = []
  · subst h0; exact Nat.zero_le _
  obtain ⟨G, lG, gA, _, hG⟩ := meet_all hn h2 hD hA Z h0 fun z hz => ⟨(hZ z hz).1, (hZ z hz).2.1.1, (hZ z hz).2.2⟩
  rw [← seqsG_len]
  have := dist_len (X := (seqsG (fixP (n + 1)) (n + 1) s (fullM (n + 1))).map fun T => G ++ wdOf (n + 1) T) (fun z hz => ?_) hd
  · simpa using this
  · obtain ⟨t, ht, st, et⟩ := hG z hz
    obtain ⟨u, hu, h4⟩ := ((hZ z hz).2.1.2.trans hB).trans (k_mono (r := s) (by omega) hD gA)
    have h6 : BE (n + 1) (G ++ (t ++ u)) (G ++ powB s D) := by
      have a1 := (et.post u).trans h4
      simpa using a1
    have h7 := h6.cancelL lG
    obtain ⟨T, y, gT, ti, hlen, _, hy, hyt⟩ := tight_of (by omega) h2 hD ht hu h7
    have sy := pos_sup hy.posW (sfree_of st) ht.lt hyt.symm
    have hfix := wdF_fix hy (by omega) sy
    refine ⟨G ++ wdOf (n + 1) T, List.mem_map.2 ⟨T, mem_seqsG T s _ hlen gT ti (fun a ha => ?_) fun a T' _ => sub_full (n + 1) a, rfl⟩, ?_⟩
    · refine List.mem_filter.2 ⟨mem_allP (gT a ha), decide_eq_true (hfix a ha)⟩
    · have h8 := ((wdOf_spec hy).uniq (by omega) hy).trans hyt
      exact et.symm.trans (h8.symm.pre G)
end
end Go.Proofs.Ytnmklkjlcpgjmaa

namespace Go.Proofs.Ytnmklkjlcpgjmaa
open Go.RowKit Go.Sl

def keys6 : List Msk := [true, false].flatMap fun a => [true, false].flatMap fun b => [true, false].flatMap fun c => [true, false].flatMap fun d => [true, false].map fun e => [a, b, c, d, e]
theorem keys6_ok : ((triP 6).all fun t => keys6.contains t.2.1) = true := by decide +kernel
theorem keys6_fix : ((triG (fixP 6) 6).all fun t => keys6.contains t.2.1) = true := by decide +kernel
theorem keys6_not : ((List.range 5).all fun i => keys6.contains (maskNot 6 i)) = true := by decide +kernel
set_option maxHeartbeats 16000000 in
theorem tab6_checks : (let t4 := tabQ (triP 6) keys6 4; let t5 := stepQ (triP 6) keys6 t4; let t6 := stepQ (triP 6) keys6 t5; decide (lookQ t4 (fullM 6) ≤ 634472921 ∧ lookQ t5 (fullM 6) ≤ 49477263360 ∧ lookQ t6 (fullM 6) ≤ 3836712177121 ∧ lookQ t5 (maskNot 6 0) ≤ 19808530620 ∧ lookQ t5 (maskNot 6 1) ≤ 19808530620 ∧ lookQ t5 (maskNot 6 2) ≤ 19808530620 ∧ lookQ t5 (maskNot 6 3) ≤ 19808530620 ∧ lookQ t5 (maskNot 6 4) ≤ 19808530620)) = true := by decide +kernel
theorem tab6_fix : (let t6 := tabQ (triG (fixP 6) 6) keys6 6; let t7 := stepQ (triG (fixP 6) 6) keys6 t6; decide (lookQ t6 (fullM 6) ≤ 551997751 ∧ lookQ t7 (fullM 6) ≤ 10344011880)) = true := by decide +kernel
theorem cnt6 : cntQ (triP 6) 4 (fullM 6) ≤ 634472921 ∧ cntQ (triP 6) 5 (fullM 6) ≤ 49477263360 ∧ cntQ (triP 6) 6 (fullM 6) ≤ 3836712177121 ∧ ∀ i, i + 1 < 6 → cntQ (triP 6) 5 (maskNot 6 i) ≤ 19808530620 := by
  have hk : ∀ t ∈ triP 6, t.2.1 ∈ keys6 := fun t ht => by
    have := List.all_eq_true.1 keys6_ok t ht
    simpa using this
  have hf : fullM 6 ∈ keys6 := by decide
  have h1 := of_decide_eq_true tab6_checks
  refine ⟨?_, ?_, ?_, fun i hi => ?_⟩
  · rw [← tabQ_eq (triP 6) keys6 hk 4 (fullM 6) hf]; exact h1.1
  · rw [← tabQ_eq (triP 6) keys6 hk 5 (fullM 6) hf]; exact h1.2.1
  · rw [← tabQ_eq (triP 6) keys6 hk 6 (fullM 6) hf]; exact h1.2.2.1
  · have hm : maskNot 6 i ∈ keys6 := by
      have := List.all_eq_true.1 keys6_not i (List.mem_range.2 (by omega))
      simpa using this
    rw [← tabQ_eq (triP 6) keys6 hk 5 (maskNot 6 i) hm]
    rcases (show i = 0 ∨ i = 1 ∨ i = 2 ∨ i = 3 ∨ i = 4 by omega) with rfl | rfl | rfl | rfl | rfl
    · exact h1.2.2.2.1
    · exact h1.2.2.2.2.1
    · exact h1.2.2.2.2.2.1
    · exact h1.2.2.2.2.2.2.1
    · exact h1.2.2.2.2.2.2.2
theorem cnt6_fix : cntQ (triG (fixP 6) 6) 6 (fullM 6) ≤ 551997751 ∧ cntQ (triG (fixP 6) 6) 7 (fullM 6) ≤ 10344011880 := by
  have hk : ∀ t ∈ triG (fixP 6) 6, t.2.1 ∈ keys6 := fun t ht => by
    have := List.all_eq_true.1 keys6_fix t ht
    simpa using this
  have hf : fullM 6 ∈ keys6 := by decide
  have h1 := of_decide_eq_true tab6_fix
  exact ⟨by rw [← tabQ_eq _ keys6 hk 6 (fullM 6) hf]; exact h1.1, by rw [← tabQ_eq _ keys6 hk 7 (fullM 6) hf]; exact h1.2⟩
end Go.Proofs.Ytnmklkjlcpgjmaa

namespace Go.Proofs.Ytnmklkjlcpgjmaa
open Go.RowKit Go.Sl

theorem way_ofC {n l r : Nat} {D A B : List Int} {X : List (List Int)} (hn : n ≤ 1000) (h2 : 2 ≤ n) (hD : IsUp n D (hf n)) (hA : LtW n A) (hX : Cover n A B X) {Lm : Nat} (hL : ∀ w m, OnWayC n l r D A B X w m → w.length ≤ Lm) : Way n Lm (fun w m => OnWayC n l r D A B X w m) :=
  ⟨fun h => hL _ _ h, fun h => h.redL hn h2 hD hA hX, fun h hc hM => h.handle hn h2 hD hA hX hc hM⟩
theorem fewX_of {n s f : Nat} {D A B : List Int} (hA : LtW n A) (hf : Span n s D f) (hB : LeB n B (A ++ powB (s : Int) D)) : FewX n A B f := fun Z hZ hd => hf A hA Z (fun z hz => ⟨(hZ z hz).1, (hZ z hz).2.1, (hZ z hz).2.2.trans hB⟩) hd
theorem way12 {w : List Int} (lw : LtW 6 w) (hl : w.length ≤ 12) (hp : posN w ≤ negN w) : ∃ N Lm W, Way N Lm W ∧ Lm ≤ 16000000000000 ∧ ∃ m, W w m := by
  obtain ⟨D, hD⟩ := up_exists (n := 6) (by decide) _ (pn_hf (by decide))
  have hDl : D.length = 15 := by rw [hD.len (by decide)]; decide
  obtain ⟨hex, hlen⟩ := ex_count lw
  obtain ⟨c4, c5, c6, cN⟩ := cnt6
  obtain ⟨d6, d7⟩ := cnt6_fix
  obtain ⟨A, B, hA, hB, hAB, hm⟩ := box_low (n := 6) (s := negN w) (by decide) (by decide) hD lw hp (Nat.le_refl _)
  rw [hDl] at hm
  have hdr : DrF 6 A B [] w := fun p s e => ⟨hA.2 p s e, hB.2 p s e⟩
  obtain ⟨X, hX, _⟩ := cover_of (n := 6) (by decide) (by decide) hD hA.1 hB.1 hAB (L := (exB B - exB A).toNat) (by omega)
  have hA0 : LeB 6 A [] := hA.2 [] w (by simp)
  have span : ∀ r f, cntQ (triP 6) r (fullM 6) ≤ f → Span 6 r D f := fun r f hf Q lQ Z hZ hd => Nat.le_trans (span_cnt (r := r) (by decide) (by decide) hD Q lQ Z hZ hd) (Nat.le_trans (cntP_le _ _ _ _) hf)
  have coset : ∀ s c : Nat, LeB 6 B (A ++ powB (s : Int) D) → cntQ (triG (fixP 6) 6) s (fullM 6) ≤ c → FewC 6 A B c := fun s c hs hc V Z hZ hd => Nat.le_trans (coset_few (n := 5) (by decide) (by decide) hD hA.1 hs Z hZ hd) hc
  have up7 : ∀ s : Nat, negN w ≤ s → LeB 6 B (A ++ powB (s : Int) D) := fun s hs => hAB.trans (le_pow hD (by omega) A)
  rcases (show posN w ≤ 4 ∨ posN w = 5 ∨ (posN w = 6 ∧ negN w = 6) by omega) with h4 | h5 | ⟨h6, h6'⟩
  · obtain ⟨m, hm0⟩ := OnWayR.start (X := X) (r := 4) hD lw hdr hl (rho_start (by decide) hD lw h4)
    exact ⟨6, _, _, way_of (l := 12) (by decide) (by decide) hD hA.1 hX (few_low (m := 64) (by decide) (by decide) hD hA.1 hA0 (span 4 _ c4) (by omega)), by omega, m, hm0⟩
  · obtain ⟨m, hm0⟩ := OnWayC.start (X := X) (r := 5) hD lw hdr hl (rho_start (by decide) hD lw (by omega))
    have sn : SpanNot 6 5 D 19808530620 := span_not (by decide) (by decide) hD (by decide) cN
    have hF := few_low2 (B := B) (m := 77) (by decide) (by decide) hD hA.1 hA0 (span 5 _ c5) sn (by omega)
    have hC := coset 7 _ (up7 7 (by omega)) d7
    exact ⟨6, _, _, way_ofC (by decide) (by decide) hD hA.1 hX fun w m h => h.len (by decide) hX hF hC, by omega, m, hm0⟩
  · obtain ⟨m, hm0⟩ := OnWayC.start (X := X) (r := 6) hD lw hdr hl (rho_start (by decide) hD lw (by omega))
    have hB6 := up7 6 (by omega)
    have hF := few_all (r := 6) hA.1 (span 6 _ c6) hB6
    have hC := coset 6 _ hB6 d6
    have hXX := fewX_of hA.1 (span 6 _ c6) hB6
    exact ⟨6, _, _, way_ofC (by decide) (by decide) hD hA.1 hX fun w m h => h.lenX (by decide) hX hF hC hXX, by omega, m, hm0⟩
theorem redOK_flip {n L : Nat} {xs : List Int} (h : LtW n xs) (hl : (redL xs).length ≤ L) (key : ∀ w : List Int, LtW n w → w.length ≤ L → posN w ≤ negN w → ∃ N Lm W, Way N Lm W ∧ Lm ≤ 16000000000000 ∧ ∃ m, W w m) : RedOK xs := by
  obtain ⟨w, hw⟩ : ∃ w, redL xs = w := ⟨_, rfl⟩
  have lw : LtW n w := fun z hz => h z (redL_mem (by rw [hw]; exact hz))
  unfold RedOK
  rw [hw] at hl ⊢
  rcases Nat.le_total (posN w) (negN w) with hp | hp
  · exact key w lw hl hp
  · obtain ⟨N, Lm, W, hW, hLm, m, hm⟩ := key (negL w) (negL_lt lw) (by rw [negL_len]; exact hl) (by rw [posN_neg, negN_neg]; exact hp)
    exact ⟨N, Lm, _, way_neg hW, hLm, m, hm⟩
theorem redOK12 {xs : List Int} (h : LtW 6 xs) (hl : (redL xs).length ≤ 12) : RedOK xs := redOK_flip h hl fun _w => way12
def keys3 : List Msk := [true, false].flatMap fun a => [true, false].map fun b => [a, b]
theorem cnt3 : cntQ (triP 3) 10 (fullM 3) ≤ 10000 := by
  have hk0 : ((triP 3).all fun t => keys3.contains t.2.1) = true := by decide +kernel
  have hk : ∀ t ∈ triP 3, t.2.1 ∈ keys3 := fun t ht => by
    have := List.all_eq_true.1 hk0 t ht
    simpa using this
  have hf : fullM 3 ∈ keys3 := by decide
  rw [← tabQ_eq (triP 3) keys3 hk 10 (fullM 3) hf]
  have : decide (lookQ (tabQ (triP 3) keys3 10) (fullM 3) ≤ 10000) = true := by decide +kernel
  exact of_decide_eq_true this
theorem way21 {w : List Int} (lw : LtW 3 w) (hl : w.length ≤ 21) (hp : posN w ≤ negN w) : ∃ N Lm W, Way N Lm W ∧ Lm ≤ 16000000000000 ∧ ∃ m, W w m := by
  obtain ⟨D, hD⟩ := up_exists (n := 3) (by decide) _ (pn_hf (by decide))
  have hDl : D.length = 3 := by rw [hD.len (by decide)]; decide
  obtain ⟨hex, hlen⟩ := ex_count lw
  obtain ⟨A, B, hA, hB, hAB, hm⟩ := box_low (n := 3) (s := negN w) (by decide) (by decide) hD lw hp (Nat.le_refl _)
  rw [hDl] at hm
  have hdr : DrF 3 A B [] w := fun p s e => ⟨hA.2 p s e, hB.2 p s e⟩
  obtain ⟨X, hX, _⟩ := cover_of (n := 3) (by decide) (by decide) hD hA.1 hB.1 hAB (L := (exB B - exB A).toNat) (by omega)
  have hA0 : LeB 3 A [] := hA.2 [] w (by simp)
  have sp : Span 3 10 D 10000 := fun Q lQ Z hZ hd => Nat.le_trans (span_cnt (r := 10) (by decide) (by decide) hD Q lQ Z hZ hd) (Nat.le_trans (cntP_le _ _ _ _) cnt3)
  obtain ⟨m, hm0⟩ := OnWayR.start (X := X) (r := 10) hD lw hdr hl (rho_start (by decide) hD lw (by omega))
  exact ⟨3, _, _, way_of (l := 21) (by decide) (by decide) hD hA.1 hX (few_low (m := 100) (by decide) (by decide) hD hA.1 hA0 sp (by omega)), by omega, m, hm0⟩
theorem redOK21 {xs : List Int} (h : LtW 3 xs) (hl : (redL xs).length ≤ 21) : RedOK xs := redOK_flip h hl fun _w => way21
end Go.Proofs.Ytnmklkjlcpgjmaa

namespace Go.Proofs.Ytnmklkjlcpgjmaa
open Go.ChangeShapes Go.WideShapes Go.ChangeAt Go.RowKit Go.Sl

theorem own_knob : ownKnob Try.prog.godebug = none := by kernel_rfl
theorem laid_out : laidOutB Try.prog = true := by kernel_rfl
theorem cells_int : Try.prog.cellsOf 3 = 1 := by kernel_rfl

theorem wf_bounds {n : Int} (h : (Lit.int .i64 n).wf = true) : I64 n := by
  have h1 : IntKind.i64.min = -9223372036854775808 := rfl
  have h2 : IntKind.i64.max = 9223372036854775807 := rfl
  simp only [Lit.wf, Bool.and_eq_true, decide_eq_true_eq] at h
  unfold I64
  omega

set_option maxRecDepth 100000 in
theorem arg_int {H : Type} {enc : TypeId × Value → H} {W : World} {base b0 : Nat} {v : Value} {d : DataW H} {ps : List MemPlace} (hv : Value.okWide Try.prog W .any base 3 v)
    (h : DataW.Trod enc Try.prog W b0 (fun _ => true) true 3 v d ps) : ∃ n : Int, v = .int .i64 n ∧ I64 n := by
  obtain ⟨n, rfl, _, _, wn⟩ := open_int Try.underlying3 hv h
  exact ⟨n, rfl, wf_bounds wn⟩

set_option maxRecDepth 100000 in
theorem arg_ints {H : Type} {enc : TypeId × Value → H} {W : World} {base b0 : Nat} {v : Value} {d : DataW H} {ps : List MemPlace} (hv : Value.okWide Try.prog W .any base 22 v)
    (h : DataW.Trod enc Try.prog W b0 (fun _ => true) true 22 v d ps) : ∃ xs : List Int, Ints W v xs ∧ ∀ x ∈ xs, I64 x := by
  obtain ⟨a0, len, cap, rfl⟩ := okWide_slice Try.underlying22 hv
  obtain ⟨fuel, hf⟩ := h
  rcases open_ints Try.underlying22 Try.underlying3 cells_int hf with ⟨hcs, hx⟩ | ⟨a, len', cap', zs, hcs, _, hl, hm, hz, hx, hcell, hwz⟩
  · simp [Value.cells] at hcs
    obtain ⟨rfl, rfl, rfl⟩ := hcs
    exact ⟨[], ints_nil W, by simp⟩
  · simp [Value.cells] at hcs
    obtain ⟨rfl, rfl, rfl⟩ := hcs
    simp only [if_true] at hz
    refine ⟨zs.take len, ⟨⟨rfl, hl, hm, fun h0 => ?_⟩, by simp; omega, fun j u hu => ?_⟩, fun x hx => wf_bounds (hwz x (List.mem_of_mem_take hx))⟩
    · simp only [vcap_mk] at h0
      obtain ⟨b, off, spot⟩ := a
      have hspot : spot = none := by simpa [Addr.add] using World.cell?_spot (hcell 0 (by omega))
      subst hspot
      rfl
    · have hj : j < len := by
        have := (List.getElem?_eq_some_iff.1 hu).1
        simp at this; omega
      obtain ⟨b, off, spot⟩ := a
      have hspot : spot = none := by simpa [Addr.add] using World.cell?_spot (hcell 0 (by omega))
      subst hspot
      have h1 := hcell j (by omega)
      rw [Addr.add_lit] at h1
      rw [vat_mk, h1]
      rw [List.map_take, List.getElem?_take, if_pos hj] at hu
      simp at hu
      obtain ⟨a, ha, rfl⟩ := hu
      simp [List.getD, ha]

end Go.Proofs.Ytnmklkjlcpgjmaa

namespace Go.Proofs.Ytnmklkjlcpgjmaa
open Go.ChangeShapes Go.WideShapes Go.ChangeAt Go.RowKit Go.Sl

set_option maxRecDepth 100000 in
theorem arg_bool {H : Type} {enc : TypeId × Value → H} {W : World} {base b0 : Nat} {v : Value} {d : DataW H} {ps : List MemPlace} (hv : Value.okWide Try.prog W .any base 4 v)
    (h : DataW.Trod enc Try.prog W b0 (fun _ => true) true 4 v d ps) : ∃ b : Bool, v = .bool b := by
  obtain ⟨b, rfl, _⟩ := RowKit.open_bool Try.underlying4 hv h
  exact ⟨b, rfl⟩
end Go.Proofs.Ytnmklkjlcpgjmaa


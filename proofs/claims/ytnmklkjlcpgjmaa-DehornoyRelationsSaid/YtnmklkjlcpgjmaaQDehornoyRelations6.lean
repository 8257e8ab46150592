/- What DehornoyRelations compares reduces within the bound. No program. -/
import Derived.Test.YtnmklkjlcpgjmaaQDehornoyRelations0
import Derived.Test.YtnmklkjlcpgjmaaQDehornoyRelations1
import Derived.Test.YtnmklkjlcpgjmaaQDehornoyRelations2
import Derived.Test.YtnmklkjlcpgjmaaQDehornoyRelations3
import Derived.Test.YtnmklkjlcpgjmaaQDehornoyRelations4
import Derived.Test.YtnmklkjlcpgjmaaQDehornoyRelations5

namespace Go.Proofs.Ytnmklkjlcpgjmaa
open Go.RowKit Go.Sl

/-! ### Words of one strand less, shifted -/
def shU (w : List Int) : List Int := w.map fun x => x + x.sign
theorem shU_append (a b : List Int) : shU (a ++ b) = shU a ++ shU b := by simp [shU]
theorem sh_abs {x : Int} (h : x ≠ 0) : (x + x.sign).natAbs = x.natAbs + 1 := by
  rcases Int.lt_or_lt_of_ne h with h | h
  · rw [sgn_neg h]; omega
  · rw [sgn_pos h]; omega
theorem sh_lt {n : Nat} {x : Int} (h : LtB n x) : LtB (n + 1) (x + x.sign) := ⟨by have := sh_abs h.1; omega, by rw [sh_abs h.1]; have := h.2; omega⟩
theorem shU_BE {n : Nat} {u v : List Int} (h : BE n u v) : BE (n + 1) (shU u) (shU v) := by
  induction h with
  | refl u => exact .refl _
  | symm _ ih => exact ih.symm
  | trans _ _ ih ih2 => exact ih.trans ih2
  | ctx a b _ ih => rw [shU_append, shU_append, shU_append, shU_append]; exact .ctx _ _ ih
  | @cancel x h =>
    have e : shU [x, -x] = [x + x.sign, -(x + x.sign)] := by
      simp only [shU, List.map_cons, List.map_nil, Int.sign_neg]
      congr 2
      omega
    rw [e]
    exact .cancel (sh_lt h)
  | @far x y hx hy h =>
    have h1 := sh_abs hx.1
    have h2 := sh_abs hy.1
    have h3 : (x + x.sign).natAbs + 1 < (y + y.sign).natAbs ∨ (y + y.sign).natAbs + 1 < (x + x.sign).natAbs := by omega
    exact BE.far (x := x + x.sign) (y := y + y.sign) (sh_lt hx) (sh_lt hy) h3
  | @braid i h0 h =>
    have s1 : ((i : Nat) : Int).sign = 1 := sgn_pos (by omega)
    have s2 : ((i + 1 : Nat) : Int).sign = 1 := sgn_pos (by omega)
    have := BE.braid (n := n + 1) (i := i + 1) (by omega) (by omega)
    simp only [shU, List.map_cons, List.map_nil]
    rw [s1, s2]
    exact this
theorem shU_pos {n : Nat} {w : List Int} (h : PosW n w) : PosW (n + 1) (shU w) ∧ ∀ x ∈ shU w, 1 < x := by
  refine ⟨fun x hx => ?_, fun x hx => ?_⟩
  · obtain ⟨y, hy, rfl⟩ := List.mem_map.1 hx
    have := h y hy
    show 0 < y + y.sign ∧ y + y.sign < _
    rw [sgn_pos this.1]; omega
  · obtain ⟨y, hy, rfl⟩ := List.mem_map.1 hx
    have := h y hy
    show 1 < y + y.sign
    rw [sgn_pos this.1]; omega
def shD (w : List Int) : List Int := w.map fun x => x - x.sign
theorem shD_lt {n : Nat} {w : List Int} (h : LtW (n + 1) w) (hf : SFree 1 w) : LtW n (shD w) ∧ shU (shD w) = w := by
  refine ⟨fun x hx => ?_, ?_⟩
  · obtain ⟨y, hy, rfl⟩ := List.mem_map.1 hx
    have h1 := h y hy
    have h2 := hf y hy
    rcases Int.lt_or_lt_of_ne h1.1 with h3 | h3
    · rw [sgn_neg h3]; exact ⟨by omega, by have := h1.2; omega⟩
    · rw [sgn_pos h3]; exact ⟨by omega, by have := h1.2; omega⟩
  · unfold shU shD
    rw [List.map_map]
    conv => rhs; rw [← List.map_id w]
    refine List.map_congr_left fun y hy => ?_
    have h1 := h y hy
    have h2 := hf y hy
    show y - y.sign + (y - y.sign).sign = y
    rcases Int.lt_or_lt_of_ne h1.1 with h3 | h3
    · rw [sgn_neg h3, sgn_neg (by omega)]; omega
    · rw [sgn_pos h3, sgn_pos (by omega)]; omega
/-- A word of letters 2 and above is a fraction of positive ones. -/
theorem frac {n : Nat} (hn : n ≤ 999) {h : List Int} (hl : LtW (n + 1) h) (hf0 : SFree 1 h) : ∃ a b, PosW (n + 1) a ∧ PosW (n + 1) b ∧ (∀ x ∈ a, 1 < x) ∧ (∀ x ∈ b, 1 < x) ∧ BE (n + 1) (a ++ h) b := by
  obtain ⟨D, hD⟩ := up_exists (n := n) (by omega) _ (pn_hf (by omega))
  obtain ⟨l1, e1⟩ := shD_lt hl hf0
  obtain ⟨t, ht, he⟩ := word_above (by omega) hD l1 (m := (negN (shD h) : Int)) (Int.le_refl _)
  have hp : PosW n (powB (negN (shD h) : Int) D) := powB_pos hD.posW (by omega)
  have h1 := he.pre (powB (negN (shD h) : Int) D)
  have h2 := (powB_neg hD.lt (negN (shD h) : Int)).post t
  have h3 : BE n (powB (negN (shD h) : Int) D ++ shD h) t := by
    simp only [List.append_assoc, List.nil_append] at h1 h2
    exact h1.symm.trans h2
  have h4 := shU_BE h3
  rw [shU_append, e1] at h4
  exact ⟨_, _, (shU_pos hp).1, (shU_pos ht).1, (shU_pos hp).2, (shU_pos ht).2, h4⟩
section
variable {n : Nat} {D A B : List Int}
/-- A positive word that is equal to one without the letter 1 has no letter 1. -/
theorem pos_sup {w w' : List Int} (hp : PosW n w') (hf : SFree 1 w) (lw : LtW n w) (h : BE n w w') : ∀ x ∈ w', 1 < x := by
  intro z hz
  have h0 := hp z hz
  apply Classical.byContradiction
  intro hle
  have hz1 : z = 1 := by omega
  refine bey_irr (n := n) (a := []) (b := w') (k := 1) (by decide) (.inl rfl) (fun x hx => by simp at hx) ⟨w', ⟨fun y hy => ?_, z, hz, by rw [hz1]; rfl⟩, hp.lt, by simpa using BE.refl w'⟩ (Sam.symm ⟨w, hf, lw, by simpa using h⟩)
  have := hp y hy
  exact ⟨by omega, fun _ => by omega⟩
theorem sfree_of {w : List Int} (h : ∀ x ∈ w, 1 < x) : SFree 1 w := fun x hx => by have := h x hx; omega
/-- Two vertices of one coset: their meet is in it. -/
theorem meet_coset (hn : n ≤ 998) (h2 : 2 ≤ n + 1) {D : List Int} (hD : IsUp (n + 1) D (hf (n + 1))) {A z z' : List Int} (hA : LtW (n + 1) A) (hz : LeB (n + 1) A z) (hz' : LeB (n + 1) A z') (lz : LtW (n + 1) z) (hs : Sam (n + 1) 1 z z') :
    ∃ G p p', LtW (n + 1) G ∧ LeB (n + 1) A G ∧ PosW (n + 1) p ∧ PosW (n + 1) p' ∧ (∀ x ∈ p, 1 < x) ∧ (∀ x ∈ p', 1 < x) ∧ BE (n + 1) (G ++ p) z ∧ BE (n + 1) (G ++ p') z' := by
  obtain ⟨G, lG, gA, ⟨p, hp, ep⟩, ⟨p', hp', ep'⟩, gr⟩ := gcd_exists (by omega) h2 hD hA hz hz'
  obtain ⟨h, hfr, lh, eh⟩ := hs
  obtain ⟨a, b, pa, pb, sa, sb, hab⟩ := frac (by omega) lh hfr
  -- z' = z h, a h = b: c = z a^-1 lies below z and z'... the other way: x = a p^-1
  have la := pa.lt
  -- c := z ++ invB a is below z and z'
  have hc1 : LeB (n + 1) (z ++ invB a) z := ⟨a, pa, by
    have := (BE.invMul la).pre z
    rw [List.append_nil] at this
    rw [List.append_assoc]; exact this⟩
  have hc2 : LeB (n + 1) (z ++ invB a) z' := ⟨b, pb, by
    have h1 := hab.symm.pre (z ++ invB a)
    have h3 := ((BE.invMul la).pre z).post h
    simp only [List.append_assoc, List.append_nil] at h1 h3 ⊢
    exact h1.trans (h3.trans eh)⟩
  have lc : LtW (n + 1) (z ++ invB a) := lz.app (invB_lt la)
  obtain ⟨x, hx, ex⟩ := gr _ lc hc1 hc2
  -- z a^-1 x = G, G p = z: x p = a
  have e1 : BE (n + 1) (x ++ p) a := by
    have h1 := (ex.post p).trans ep
    have h3 := hc1
    have h4 : BE (n + 1) (z ++ invB a ++ (x ++ p)) (z ++ invB a ++ a) := by
      have h5 := (BE.invMul la).pre z
      simp only [List.append_assoc, List.append_nil] at h1 h5 ⊢
      exact h1.trans h5.symm
    exact h4.cancelL lc
  have e2 : BE (n + 1) (x ++ p') b := by
    have h1 := (ex.post p').trans ep'
    have h5 := hab.symm.pre (z ++ invB a)
    have h6 := ((BE.invMul la).pre z).post h
    have h4 : BE (n + 1) (z ++ invB a ++ (x ++ p')) (z ++ invB a ++ b) := by
      simp only [List.append_assoc, List.append_nil] at h1 h5 h6 ⊢
      exact h1.trans (h5.trans (h6.trans eh)).symm
    exact h4.cancelL lc
  have s1 := pos_sup (hx.app hp) (sfree_of sa) la e1.symm
  have s2 := pos_sup (hx.app hp') (sfree_of sb) pb.lt e2.symm
  exact ⟨G, p, p', lG, gA, hp, hp', fun y hy => s1 y (by simp [hy]), fun y hy => s2 y (by simp [hy]), ep, ep'⟩
/-- All vertices of a list in one coset. -/
theorem meet_all (hn : n ≤ 998) (h2 : 2 ≤ n + 1) {D : List Int} (hD : IsUp (n + 1) D (hf (n + 1))) {A V : List Int} (hA : LtW (n + 1) A) : ∀ (Z : List (List Int)), Z ≠ [] → (∀ z ∈ Z, LtW (n + 1) z ∧ LeB (n + 1) A z ∧ Sam (n + 1) 1 V z) → ∃ G, LtW (n + 1) G ∧ LeB (n + 1) A G ∧ Sam (n + 1) 1 V G ∧ ∀ z ∈ Z, ∃ t, PosW (n + 1) t ∧ (∀ x ∈ t, 1 < x) ∧ BE (n + 1) (G ++ t) z := by
  intro Z
  induction Z with
  | nil => intro h; exact absurd rfl h
  | cons z Z ih =>
    intro _ hZ
    have hz := hZ z (by simp)
    by_cases h0 : Z = []
    · subst h0
      refine ⟨z, hz.1, hz.2.1, hz.2.2, fun y hy => ⟨[], posW_nil, fun x hx => by simp at hx, ?_⟩⟩
      rw [List.mem_singleton.1 hy, List.append_nil]
      exact .refl _
    · obtain ⟨G, lG, gA, gV, hG⟩ := ih h0 fun y hy => hZ y (by simp [hy])
      obtain ⟨G', p, p', lG', gA', hp, hp', sp, sp', ep, ep'⟩ := meet_coset hn h2 hD hA gA hz.2.1 lG (gV.symm.trans hz.2.2)
      refine ⟨G', lG', gA', gV.trans (Sam.symm ⟨p, sfree_of sp, hp.lt, ep⟩), fun y hy => ?_⟩
      rcases List.mem_cons.1 hy with rfl | hy
      · exact ⟨p', hp', sp', ep'⟩
      · obtain ⟨t, ht, st, et⟩ := hG y hy
        refine ⟨p ++ t, hp.app ht, fun x hx => (List.mem_append.1 hx).elim (sp x) (st x), ?_⟩
        have := (ep.post t).trans et
        simpa using this
end
end Go.Proofs.Ytnmklkjlcpgjmaa

namespace Go.Proofs.Ytnmklkjlcpgjmaa
open Go.RowKit Go.Sl

def maskNot (n i : Nat) : Msk := (List.range (n - 1)).map fun j => decide (j ≠ i)
theorem sub_not {n i : Nat} {a : List Int} (h : ¬ dn a i) : subM (ldP n a) (maskNot n i) = true := by
  unfold subM maskNot ldP
  rw [List.zip_map', List.all_map, List.all_eq_true]
  intro j _
  simp only [Function.comp]
  by_cases e : j = i
  · subst e
    rw [decide_eq_false (show ¬ nth a (j + 1) < nth a j from h)]; simp
  · rw [decide_eq_true (show j ≠ i from e)]; simp
section
variable {n r : Nat} {D A B : List Int}
theorem front_le (hn : n ≤ 1000) {a : List Int} {T _y : List (List Int)} {w : List Int} (g : Good n (a :: T)) {i : Nat} (hi : i + 1 < n) (hd : dn a i) (hw : WdF n (a :: T) w) : ∃ t, PosW n t ∧ BE n (ltr i :: t) w := by
  have ha := g.hd
  obtain ⟨u, hu⟩ := up_exists hn _ (ha.swapAt hi)
  obtain ⟨v, hv⟩ := WdF.exists hn T g.tl
  have h1 := front2 hn ha hi hd hu
  have h2 : WdF n (a :: T) ((ltr i :: u) ++ v) := .cons h1 hv
  exact ⟨u ++ v, hu.posW.app hv.posW, h2.uniq hn hw⟩
theorem span_not (hn : n ≤ 1000) (h2 : 2 ≤ n) (hD : IsUp n D (hf n)) (_hr : 0 < r) {g : Nat} (hg : ∀ i, i + 1 < n → cntQ (triP n) r (maskNot n i) ≤ g) : SpanNot n r D g := by
  intro Q lQ i hi Z hZ hd
  refine Nat.le_trans ?_ (Nat.le_trans (cntP_le (triP n) r (r * D.length) (maskNot n i)) (hg i hi))
  rw [← seqsP_len]
  have := dist_len (X := (seqsP n r (r * D.length) (maskNot n i)).map fun T => Q ++ wdOf n T) (fun z hz => ?_) hd
  · simpa using this
  · obtain ⟨lz, ⟨t, ht, h3⟩, ⟨u, hu, h4⟩, hno⟩ := hZ z hz
    have h6 : BE n (Q ++ (t ++ u)) (Q ++ powB r D) := by
      have a1 := (h3.post u).trans h4
      simpa using a1
    have h7 := h6.cancelL lQ
    obtain ⟨T, y, gT, ti, hlen, htot, hy, hyt⟩ := tight_of hn h2 hD ht hu h7
    have e1 := h7.ex
    rw [exB_append, ht.ex, hu.ex, powB_ex hD.posW] at e1
    refine ⟨Q ++ wdOf n T, List.mem_map.2 ⟨T, mem_seqsP T r _ _ hlen gT ti ?_ ?_, rfl⟩, ?_⟩
    · rw [htot]
      have : (r : Int) * (D.length : Int) = ((r * D.length : Nat) : Int) := by rw [Int.natCast_mul]
      omega
    · rintro a T' rfl
      refine sub_not fun hdn => hno ?_
      obtain ⟨s, hs, es⟩ := front_le (_y := []) hn gT hi hdn hy
      refine ⟨s, hs, ?_⟩
      have h8 := ((es.trans hyt).pre Q).trans h3
      simpa using h8
    · have h8 := ((wdOf_spec hy).uniq hn hy).trans hyt
      exact h3.symm.trans (h8.symm.pre Q)

/-! ### Sequences of given permutations -/
def seqsG (Ps : List (List Int)) (n : Nat) : Nat → Msk → List (List (List Int))
  | 0, _ => [[]]
  | m + 1, K => Ps.flatMap fun a => if subM (ldP n a) K = true then (seqsG Ps n m (rdP n a)).map (a :: ·) else []
def triG (Ps : List (List Int)) (n : Nat) : List (Msk × Msk × Nat) := Ps.map fun a => (ldP n a, rdP n a, 0)
theorem seqsG_len (Ps : List (List Int)) (n : Nat) : ∀ m K, (seqsG Ps n m K).length = cntQ (triG Ps n) m K := by
  intro m
  induction m with
  | zero => intro K; rfl
  | succ m ih =>
    intro K
    rw [seqsG, cntQ, len_flatMapP]
    have e : ∀ f : Msk × Msk × Nat → Nat, (triG Ps n).map f = Ps.map fun a => f (ldP n a, rdP n a, 0) := fun f => by rw [triG, List.map_map]; rfl
    rw [e]
    congr 1
    refine List.map_congr_left fun a _ => ?_
    show (if subM (ldP n a) K = true then _ else _ : List (List (List Int))).length = if subM (ldP n a) K = true then _ else 0
    split
    · rw [List.length_map, ih]
    · rfl
theorem mem_seqsG {Ps : List (List Int)} : ∀ (T : List (List Int)) (m : Nat) (K : Msk), T.length = m → Good n T → Tight n T → (∀ a ∈ T, a ∈ Ps) → (∀ a T', T = a :: T' → subM (ldP n a) K = true) → T ∈ seqsG Ps n m K := by
  intro T
  induction T with
  | nil => intro m K hm _ _ _ _; subst hm; simp [seqsG]
  | cons a T ih =>
    intro m K hm g t hP hK
    obtain ⟨m, rfl⟩ : ∃ k, m = k + 1 := ⟨T.length, by simpa using hm.symm⟩
    rw [seqsG]
    refine List.mem_flatMap.2 ⟨a, hP a (by simp), ?_⟩
    rw [if_pos (hK a T rfl)]
    refine List.mem_map.2 ⟨T, ih m (rdP n a) (by simpa using hm) g.tl t.tl (fun b hb => hP b (by simp [hb])) ?_, rfl⟩
    rintro b T' rfl
    refine ld_sub fun i hi hb => ?_
    have h1 := t.pair i hi hb
    exact (up_or g.hd hi).resolve_left h1
theorem isUp_fix {u a : List Int} (h : IsUp n u a) (h0 : 0 < n) : (∀ x ∈ u, 1 < x) → nth a 0 = 0 := by
  induction h with
  | nil => intro _; rw [nth_iota n 0 h0]; rfl
  | @snoc w f j h hj hu ih =>
    intro hx
    have h1 := ih fun x hx2 => hx x (by simp [hx2])
    have h2 := hx (ltr j) (by simp)
    unfold ltr at h2
    by_cases hl : 0 < f.length
    · rw [nth_swapV f j 0 hl, h1]
      unfold swV
      grind
    · have : f = [] := List.eq_nil_of_length_eq_zero (by omega)
      subst this
      rfl
theorem wdF_fix {T : List (List Int)} {y : List Int} (h : WdF n T y) (h0 : 0 < n) : (∀ x ∈ y, 1 < x) → ∀ a ∈ T, nth a 0 = 0 := by
  induction h with
  | nil => intro _ a ha; simp at ha
  | cons h k ih =>
    intro hx a ha
    rcases List.mem_cons.1 ha with rfl | ha
    · exact isUp_fix h h0 fun x hx2 => hx x (by simp [hx2])
    · exact ih (fun x hx2 => hx x (by simp [hx2])) a ha
def fixP (n : Nat) : List (List Int) := (allP n).filter fun a => decide (nth a 0 = 0)
end
section
variable {n s : Nat} {D A B V : List Int}
/-- The vertices of the interval in one coset. -/
theorem coset_few (hn : n ≤ 998) (h2 : 2 ≤ n + 1) (hD : IsUp (n + 1) D (hf (n + 1))) (hA : LtW (n + 1) A) (hB : LeB (n + 1) B (A ++ powB (s : Int) D)) (Z : List (List Int)) (hZ : ∀ z ∈ Z, LtW (n + 1) z ∧ InB (n + 1) A B z ∧ Sam (n + 1) 1 V z) (hd : Z.Pairwise fun a b => ¬ BE (n + 1) a b) : Z.length ≤ cntQ (triG (fixP (n + 1)) (n + 1)) s (fullM (n + 1)) := by
  by_cases h0 : Z = []
  · subst h0; exact Nat.zero_le _
  obtain ⟨G, lG, gA, _, hG⟩ := meet_all hn h2 hD hA Z h0 fun z hz => ⟨(hZ z hz).1, (hZ z hz).2.1.1, (hZ z hz).2.2⟩
  rw [← seqsG_len]
  have := dist_len (X := (seqsG (fixP (n + 1)) (n + 1) s (fullM (n + 1))).map fun T => G ++ wdOf (n + 1) T) (fun z hz => ?_) hd
  · simpa using this
  · obtain ⟨t, ht, st, et⟩ := hG z hz
    obtain ⟨u, hu, h4⟩ := ((hZ z hz).2.1.2.trans hB).trans (k_mono (r := s) (by omega) hD gA)
    have h6 : BE (n + 1) (G ++ (t ++ u)) (G ++ powB s D) := by
      have a1 := (et.post u).trans h4
      simpa using a1
    have h7 := h6.cancelL lG
    obtain ⟨T, y, gT, ti, hlen, _, hy, hyt⟩ := tight_of (by omega) h2 hD ht hu h7
    have sy := pos_sup hy.posW (sfree_of st) ht.lt hyt.symm
    have hfix := wdF_fix hy (by omega) sy
    refine ⟨G ++ wdOf (n + 1) T, List.mem_map.2 ⟨T, mem_seqsG T s _ hlen gT ti (fun a ha => ?_) fun a T' _ => sub_full (n + 1) a, rfl⟩, ?_⟩
    · refine List.mem_filter.2 ⟨mem_allP (gT a ha), decide_eq_true (hfix a ha)⟩
    · have h8 := ((wdOf_spec hy).uniq (by omega) hy).trans hyt
      exact et.symm.trans (h8.symm.pre G)
end
end Go.Proofs.Ytnmklkjlcpgjmaa

namespace Go.Proofs.Ytnmklkjlcpgjmaa
open Go.RowKit Go.Sl

def keys6 : List Msk := [true, false].flatMap fun a => [true, false].flatMap fun b => [true, false].flatMap fun c => [true, false].flatMap fun d => [true, false].map fun e => [a, b, c, d, e]
theorem keys6_ok : ((triP 6).all fun t => keys6.contains t.2.1) = true := by decide +kernel
theorem keys6_fix : ((triG (fixP 6) 6).all fun t => keys6.contains t.2.1) = true := by decide +kernel
theorem keys6_not : ((List.range 5).all fun i => keys6.contains (maskNot 6 i)) = true := by decide +kernel
set_option maxHeartbeats 16000000 in
theorem tab6_checks : (let t4 := tabQ (triP 6) keys6 4; let t5 := stepQ (triP 6) keys6 t4; let t6 := stepQ (triP 6) keys6 t5; decide (lookQ t4 (fullM 6) ≤ 634472921 ∧ lookQ t5 (fullM 6) ≤ 49477263360 ∧ lookQ t6 (fullM 6) ≤ 3836712177121 ∧ lookQ t5 (maskNot 6 0) ≤ 19808530620 ∧ lookQ t5 (maskNot 6 1) ≤ 19808530620 ∧ lookQ t5 (maskNot 6 2) ≤ 19808530620 ∧ lookQ t5 (maskNot 6 3) ≤ 19808530620 ∧ lookQ t5 (maskNot 6 4) ≤ 19808530620)) = true := by decide +kernel
theorem tab6_fix : (let t6 := tabQ (triG (fixP 6) 6) keys6 6; let t7 := stepQ (triG (fixP 6) 6) keys6 t6; decide (lookQ t6 (fullM 6) ≤ 551997751 ∧ lookQ t7 (fullM 6) ≤ 10344011880)) = true := by decide +kernel
theorem cnt6 : cntQ (triP 6) 4 (fullM 6) ≤ 634472921 ∧ cntQ (triP 6) 5 (fullM 6) ≤ 49477263360 ∧ cntQ (triP 6) 6 (fullM 6) ≤ 3836712177121 ∧ ∀ i, i + 1 < 6 → cntQ (triP 6) 5 (maskNot 6 i) ≤ 19808530620 := by
  have hk : ∀ t ∈ triP 6, t.2.1 ∈ keys6 := fun t ht => by
    have := List.all_eq_true.1 keys6_ok t ht
    simpa using this
  have hf : fullM 6 ∈ keys6 := by decide
  have h1 := of_decide_eq_true tab6_checks
  refine ⟨?_, ?_, ?_, fun i hi => ?_⟩
  · rw [← tabQ_eq (triP 6) keys6 hk 4 (fullM 6) hf]; exact h1.1
  · rw [← tabQ_eq (triP 6) keys6 hk 5 (fullM 6) hf]; exact h1.2.1
  · rw [← tabQ_eq (triP 6) keys6 hk 6 (fullM 6) hf]; exact h1.2.2.1
  · have hm : maskNot 6 i ∈ keys6 := by
      have := List.all_eq_true.1 keys6_not i (List.mem_range.2 (by omega))
      simpa using this
    rw [← tabQ_eq (triP 6) keys6 hk 5 (maskNot 6 i) hm]
    rcases (show i = 0 ∨ i = 1 ∨ i = 2 ∨ i = 3 ∨ i = 4 by omega) with rfl | rfl | rfl | rfl | rfl
    · exact h1.2.2.2.1
    · exact h1.2.2.2.2.1
    · exact h1.2.2.2.2.2.1
    · exact h1.2.2.2.2.2.2.1
    · exact h1.2.2.2.2.2.2.2
theorem cnt6_fix : cntQ (triG (fixP 6) 6) 6 (fullM 6) ≤ 551997751 ∧ cntQ (triG (fixP 6) 6) 7 (fullM 6) ≤ 10344011880 := by
  have hk : ∀ t ∈ triG (fixP 6) 6, t.2.1 ∈ keys6 := fun t ht => by
    have := List.all_eq_true.1 keys6_fix t ht
    simpa using this
  have hf : fullM 6 ∈ keys6 := by decide
  have h1 := of_decide_eq_true tab6_fix
  exact ⟨by rw [← tabQ_eq _ keys6 hk 6 (fullM 6) hf]; exact h1.1, by rw [← tabQ_eq _ keys6 hk 7 (fullM 6) hf]; exact h1.2⟩
end Go.Proofs.Ytnmklkjlcpgjmaa

namespace Go.Proofs.Ytnmklkjlcpgjmaa
open Go.RowKit Go.Sl

theorem way_ofC {n l r : Nat} {D A B : List Int} {X : List (List Int)} (hn : n ≤ 1000) (h2 : 2 ≤ n) (hD : IsUp n D (hf n)) (hA : LtW n A) (hX : Cover n A B X) {Lm : Nat} (hL : ∀ w m, OnWayC n l r D A B X w m → w.length ≤ Lm) : Way n Lm (fun w m => OnWayC n l r D A B X w m) :=
  ⟨fun h => hL _ _ h, fun h => h.redL hn h2 hD hA hX, fun h hc hM => h.handle hn h2 hD hA hX hc hM⟩
theorem fewX_of {n s f : Nat} {D A B : List Int} (hA : LtW n A) (hf : Span n s D f) (hB : LeB n B (A ++ powB (s : Int) D)) : FewX n A B f := fun Z hZ hd => hf A hA Z (fun z hz => ⟨(hZ z hz).1, (hZ z hz).2.1, (hZ z hz).2.2.trans hB⟩) hd
end Go.Proofs.Ytnmklkjlcpgjmaa

namespace Go.Proofs.Ytnmklkjlcpgjmaa
open Go.RowKit Go.Sl

section
variable {n : Nat}
theorem neg_BE {u v : List Int} (h : BE n u v) : BE n (negL u) (negL v) := by
  induction h with
  | refl u => exact .refl _
  | symm _ ih => exact ih.symm
  | trans _ _ ih1 ih2 => exact ih1.trans ih2
  | ctx a b _ ih => rw [negL_append, negL_append, negL_append, negL_append]; exact .ctx _ _ ih
  | @cancel x h => exact BE.cancel (x := -x) (lt_neg h)
  | @far x y hx hy h => exact BE.far (x := -x) (y := -y) (lt_neg hx) (lt_neg hy) (by rw [Int.natAbs_neg, Int.natAbs_neg]; exact h)
  | braid h0 h =>
    have h1 := (BE.braid (n := n) h0 h).inv fun x hx => by
      simp only [List.mem_cons, List.not_mem_nil, or_false] at hx
      rcases hx with rfl | rfl | rfl
      · exact ⟨by omega, by omega⟩
      · exact ⟨by omega, by omega⟩
      · exact ⟨by omega, by omega⟩
    exact h1
theorem negL_inv (t : List Int) : invB (negL t) = t.reverse := by
  unfold invB negL
  rw [List.map_map]
  congr 1
  conv => rhs; rw [← List.map_id t]
  exact List.map_congr_left fun x _ => Int.neg_neg x
theorem le_neg {x y : List Int} (h : LeB n x y) : LeB n (negL y) (negL x) := by
  obtain ⟨t, ht, h⟩ := h
  have h1 := neg_BE h
  rw [negL_append] at h1
  refine ⟨t.reverse, ht.rev, ?_⟩
  rw [← negL_inv t]
  have h3 := h1.symm.post (invB (negL t))
  have h4 := (BE.mulInv (n := n) (w := negL t) (negL_lt ht.lt)).pre (negL x)
  rw [List.append_nil] at h4
  rw [List.append_assoc] at h3
  exact h3.trans h4
theorem flat_BE {u v : List Int} (h : BE n u v) : ∀ k : Nat, BE n (List.replicate k u).flatten (List.replicate k v).flatten := by
  intro k
  induction k with
  | zero => exact .refl _
  | succ k ih =>
    rw [List.replicate_succ, List.replicate_succ, List.flatten_cons, List.flatten_cons]
    exact h.app ih
theorem negL_flat (u : List Int) : ∀ k : Nat, negL (List.replicate k u).flatten = (List.replicate k (negL u)).flatten := by
  intro k
  induction k with
  | zero => rfl
  | succ k ih => rw [List.replicate_succ, List.replicate_succ, List.flatten_cons, List.flatten_cons, negL_append, ih]
/-- The half twist read backwards is the half twist. -/
theorem half_rev {D : List Int} (hD : IsUp 6 D (hf 6)) : BE 6 D D.reverse := by
  have a1 := upW_spec (n := 6) (halfN 0 5) [] _ (by unfold inN; decide) .nil (by decide +kernel)
  have a2 := upW_spec (n := 6) (halfN 0 5).reverse [] _ (by unfold inN; decide) .nil (by decide +kernel)
  have e1 : (halfN 0 5).foldl swapV (iota 6) = hf 6 := by decide +kernel
  have e2 : (halfN 0 5).reverse.foldl swapV (iota 6) = hf 6 := by decide +kernel
  rw [e1] at a1
  rw [e2] at a2
  have h1 := mats (by decide) hD a1
  have h3 := mats (by decide) a2 hD
  have h4 := h3.rev
  have e3 : ([] ++ wL (halfN 0 5).reverse).reverse = [] ++ wL (halfN 0 5) := by unfold wL; rw [List.map_reverse]; simp
  rw [e3] at h4
  exact h1.trans h4
theorem neg_pow {D : List Int} (hD : IsUp 6 D (hf 6)) (h : Nat) : BE 6 (negL (powB (h : Int) D)) (powB (-(h : Int)) D) := by
  have e : negL D = invB D.reverse := by
    unfold negL invB; rw [List.map_reverse, List.reverse_reverse]
  have h1 : BE 6 (negL D) (invB D) := by
    rw [e]
    exact ((half_rev hD).inv hD.lt).symm
  have e1 : powB (h : Int) D = (List.replicate h D).flatten := by
    unfold powB; rw [if_pos (by omega)]; rfl
  rw [e1, negL_flat]
  cases h with
  | zero => exact .refl _
  | succ h =>
    have e2 : powB (-((h + 1 : Nat) : Int)) D = (List.replicate (h + 1) (invB D)).flatten := by
      unfold powB; rw [if_neg (by omega), Int.natAbs_neg]; rfl
    rw [e2]
    exact flat_BE h1 _
end
section
variable {D w : List Int}
/-- The path both ways. -/
theorem both_rho (hD : IsUp 6 D (hf 6)) {g h r : Nat} (hg : Rho 6 g D w) (hh : Rho 6 h D (negL w)) (h1 : g ≤ r) (h3 : h ≤ r) {p s q t : List Int} (hp : w = p ++ s) (hq : w = q ++ t) : LeB 6 q (p ++ powB (r : Int) D) := by
  have e := hp.symm.trans hq
  rcases List.append_eq_append_iff.1 e with ⟨u, e1, e2⟩ | ⟨u, e1, e2⟩
  · exact ((hg q t hq) p u e1).trans (pow_mono hD h1 p)
  · have a := hh (negL p) (negL s) (by rw [hp, negL_append]) (negL q) (negL u) (by rw [e1, negL_append])
    have b := le_neg a
    rw [negL_negL, negL_append, negL_negL] at b
    have c : LeB 6 (q ++ powB (-(h : Int)) D) p := b.congr ((neg_pow hD h).pre q) (.refl _)
    exact (le_unshift (by decide) hD c).trans (pow_mono hD h3 p)
/-- The interval of a path. -/
theorem box_grp (hD : IsUp 6 D (hf 6)) (lw : LtW 6 w) {r : Nat} (hb : ∀ p s q t, w = p ++ s → w = q ++ t → LeB 6 q (p ++ powB (r : Int) D)) :
    ∃ A B, LoB 6 w A ∧ HiB 6 w B ∧ LeB 6 B (A ++ powB (r : Int) D) ∧ - exB A ≤ r * 15 := by
  have hDl : D.length = 15 := by rw [hD.len (by decide)]; decide
  obtain ⟨A, hA, hAm⟩ := low_exists (by decide) (by decide) hD lw
  obtain ⟨B, hB, hBm⟩ := high_exists (by decide) (by decide) hD lw
  have upA : HiB 6 w (A ++ powB (r : Int) D) := ⟨hA.1.app (powB_lt hD.lt _), fun p t e => by
    have hlo : LoB 6 w (p ++ powB (-(r : Int)) D) := ⟨by rw [e] at lw; exact lw.left.app (powB_lt hD.lt _), fun q t2 eq => le_shift (by decide) hD (hb q t2 p t eq e)⟩
    exact le_unshift (by decide) hD (hAm _ hlo)⟩
  refine ⟨A, B, hA, hB, hBm _ upA, ?_⟩
  have h3 : LoB 6 w ([] ++ powB (-(r : Int)) D) := ⟨powB_lt hD.lt _, fun q t e => le_shift (by decide) hD (hb q t [] w e rfl)⟩
  have e2 := (hAm _ h3).exLe
  rw [exB_append, powB_ex hD.posW, hDl, Int.neg_mul] at e2
  have : exB ([] : List Int) = 0 := rfl
  omega
/-- The three cases. -/
theorem way_grp (lw : LtW 6 w) (hl : w.length ≤ 40) {g h : Nat} (hD : IsUp 6 D (hf 6)) (hg : Rho 6 g D w) (hh : Rho 6 h D (negL w)) (hgh : g ≤ h) (hs : g + h ≤ 12) : ∃ N Lm W, Way N Lm W ∧ Lm ≤ 16000000000000 ∧ ∃ m, W w m := by
  have hDl : D.length = 15 := by rw [hD.len (by decide)]; decide
  obtain ⟨c4, c5, c6, cN⟩ := cnt6
  obtain ⟨d6, d7⟩ := cnt6_fix
  obtain ⟨A, B, hA, hB, hAB, hm⟩ := box_grp hD lw (r := h) fun p s q t hp hq => both_rho hD hg hh hgh (Nat.le_refl _) hp hq
  have hdr : DrF 6 A B [] w := fun p s e => ⟨hA.2 p s e, hB.2 p s e⟩
  obtain ⟨X, hX, _⟩ := cover_of (n := 6) (by decide) (by decide) hD hA.1 hB.1 hAB (L := (exB B - exB A).toNat) (by omega)
  have hA0 : LeB 6 A [] := hA.2 [] w (by simp)
  have span : ∀ r f, cntQ (triP 6) r (fullM 6) ≤ f → Span 6 r D f := fun r f hf Q lQ Z hZ hd => Nat.le_trans (span_cnt (r := r) (by decide) (by decide) hD Q lQ Z hZ hd) (Nat.le_trans (cntP_le _ _ _ _) hf)
  have coset : ∀ s c : Nat, LeB 6 B (A ++ powB (s : Int) D) → cntQ (triG (fixP 6) 6) s (fullM 6) ≤ c → FewC 6 A B c := fun s c hs hc V Z hZ hd => Nat.le_trans (coset_few (n := 5) (by decide) (by decide) hD hA.1 hs Z hZ hd) hc
  have up : ∀ s : Nat, h ≤ s → LeB 6 B (A ++ powB (s : Int) D) := fun s hs => hAB.trans (pow_mono hD hs A)
  rcases (show g ≤ 4 ∨ (g = 5 ∧ h ≤ 7) ∨ (g = 6 ∧ h = 6) by omega) with h4 | ⟨h5, h5'⟩ | ⟨h6, h6'⟩
  · obtain ⟨m, hm0⟩ := OnWayR.start (X := X) (r := 4) hD lw hdr hl (hg.mono hD h4)
    exact ⟨6, _, _, way_of (l := 40) (by decide) (by decide) hD hA.1 hX (few_low (m := 180) (by decide) (by decide) hD hA.1 hA0 (span 4 _ c4) (by omega)), by omega, m, hm0⟩
  · obtain ⟨m, hm0⟩ := OnWayC.start (X := X) (r := 5) hD lw hdr hl (hg.mono hD (by omega))
    have sn : SpanNot 6 5 D 19808530620 := span_not (by decide) (by decide) hD (by decide) cN
    have hF := few_low2 (B := B) (m := 105) (by decide) (by decide) hD hA.1 hA0 (span 5 _ c5) sn (by omega)
    have hC := coset 7 _ (up 7 h5') d7
    exact ⟨6, _, _, way_ofC (by decide) (by decide) hD hA.1 hX fun w m h => h.len (by decide) hX hF hC, by omega, m, hm0⟩
  · obtain ⟨m, hm0⟩ := OnWayC.start (X := X) (r := 6) hD lw hdr hl (hg.mono hD (by omega))
    have hB6 := up 6 (by omega)
    have hF := few_all (r := 6) hA.1 (span 6 _ c6) hB6
    have hC := coset 6 _ hB6 d6
    have hXX := fewX_of hA.1 (span 6 _ c6) hB6
    exact ⟨6, _, _, way_ofC (by decide) (by decide) hD hA.1 hX fun w m h => h.lenX (by decide) hX hF hC hXX, by omega, m, hm0⟩
/-- All vertices within six half twists. -/
theorem way_box (lw : LtW 6 w) (hl : w.length ≤ 40) (hD : IsUp 6 D (hf 6)) (hb : ∀ p s q t, w = p ++ s → w = q ++ t → LeB 6 q (p ++ powB (6 : Int) D)) : ∃ N Lm W, Way N Lm W ∧ Lm ≤ 16000000000000 ∧ ∃ m, W w m := by
  obtain ⟨_, _, c6, _⟩ := cnt6
  obtain ⟨d6, _⟩ := cnt6_fix
  obtain ⟨A, B, hA, hB, hAB, hm⟩ := box_grp hD lw (r := 6) hb
  have hdr : DrF 6 A B [] w := fun p s e => ⟨hA.2 p s e, hB.2 p s e⟩
  obtain ⟨X, hX, _⟩ := cover_of (n := 6) (by decide) (by decide) hD hA.1 hB.1 hAB (L := (exB B - exB A).toNat) (by omega)
  have span : ∀ r f, cntQ (triP 6) r (fullM 6) ≤ f → Span 6 r D f := fun r f hf Q lQ Z hZ hd => Nat.le_trans (span_cnt (r := r) (by decide) (by decide) hD Q lQ Z hZ hd) (Nat.le_trans (cntP_le _ _ _ _) hf)
  have hr : Rho 6 6 D w := fun q s e p t e2 => hb p (t ++ s) q s (by rw [e, e2]; simp) e
  obtain ⟨m, hm0⟩ := OnWayC.start (X := X) (r := 6) hD lw hdr hl hr
  have hF := few_all (r := 6) hA.1 (span 6 _ c6) hAB
  have hC : FewC 6 A B 551997751 := fun V Z hZ hd => Nat.le_trans (coset_few (n := 5) (by decide) (by decide) hD hA.1 hAB Z hZ hd) d6
  have hXX := fewX_of hA.1 (span 6 _ c6) hAB
  exact ⟨6, _, _, way_ofC (by decide) (by decide) hD hA.1 hX fun w m h => h.lenX (by decide) hX hF hC hXX, by omega, m, hm0⟩
/-- .. and a word that has its reduced word. -/
theorem redOK_raw {xs u : List Int} (e : redL xs = redL u) (h : ∃ N Lm W, Way N Lm W ∧ Lm ≤ 16000000000000 ∧ ∃ m, W u m) : RedOK xs := by
  obtain ⟨N, Lm, W, hW, hL, m, hm⟩ := h
  exact ⟨N, Lm, W, hW, hL, m, by rw [e]; exact hW.red hm⟩
theorem way_flip (h : ∃ N Lm W, Way N Lm W ∧ Lm ≤ 16000000000000 ∧ ∃ m, W (negL w) m) : ∃ N Lm W, Way N Lm W ∧ Lm ≤ 16000000000000 ∧ ∃ m, W w m := by
  obtain ⟨N, Lm, W, hW, hL, m, hm⟩ := h
  exact ⟨N, Lm, _, way_neg hW, hL, m, hm⟩
/-- A word of few groups. -/
theorem way_st (lw : LtW 6 w) (hl : w.length ≤ 40) (hD : IsUp 6 D (hf 6)) {X : Nat → List Int} {e : Nat} (h : GSt 6 D X w e) (hk : w.length ≤ wgt 6 w + e + 10) : ∃ N Lm W, Way N Lm W ∧ Lm ≤ 16000000000000 ∧ ∃ m, W w m := by
  obtain ⟨g, h, S, T, c, k⟩ := h
  rcases Nat.le_total g h with h1 | h1
  · exact way_grp lw hl hD c.p.rho c.m.rho h1 (by omega)
  · refine way_flip (way_grp (negL_lt lw) (by rw [negL_len]; exact hl) hD c.m.rho (by rw [negL_negL]; exact c.p.rho) h1 (by omega))
end
end Go.Proofs.Ytnmklkjlcpgjmaa

namespace Go.Proofs.Ytnmklkjlcpgjmaa
open Go.RowKit Go.Sl

section
variable {n b : Nat}
/-- No letter of index b. -/
def NoB (b : Nat) (w : List Int) : Prop := ∀ x ∈ w, x.natAbs ≠ b
def NoG (gs : List Nat) (w : List Int) : Prop := ∀ b ∈ gs, NoB b w
theorem NoG.app {gs : List Nat} {u v : List Int} (h : NoG gs u) (k : NoG gs v) : NoG gs (u ++ v) := fun b hb x hx => (List.mem_append.1 hx).elim (h b hb x) (k b hb x)
theorem NoG.left {gs : List Nat} {u v : List Int} (h : NoG gs (u ++ v)) : NoG gs u := fun b hb x hx => h b hb x (by simp [hx])
theorem NoG.right {gs : List Nat} {u v : List Int} (h : NoG gs (u ++ v)) : NoG gs v := fun b hb x hx => h b hb x (by simp [hx])
theorem NoG.inv {gs : List Nat} {u : List Int} (h : NoG gs u) : NoG gs (invB u) := fun b hb x hx => by
  unfold invB at hx
  rw [List.mem_reverse] at hx
  obtain ⟨y, hy, rfl⟩ := List.mem_map.1 hx
  rw [Int.natAbs_neg]
  exact h b hb y hy

/-! ### Crossings of two kinds of strands -/
def swB (k : Nat) (s : Nat → Bool) : Nat → Bool := fun q => if q + 1 = k then s k else if q = k then s (k - 1) else s q
def xv (x : Int) (s : Nat → Bool) : Int := if s (x.natAbs - 1) = s x.natAbs then 0 else x.sign
def crs : List Int → (Nat → Bool) → Int
  | [], _ => 0
  | x :: w, s => xv x s + crs w (swB x.natAbs s)
def crE : List Int → (Nat → Bool) → (Nat → Bool)
  | [], s => s
  | x :: w, s => crE w (swB x.natAbs s)
theorem crE_app (u v : List Int) : ∀ s, crE (u ++ v) s = crE v (crE u s) := by
  induction u with
  | nil => exact fun _ => rfl
  | cons x u ih => exact fun s => ih _
theorem crs_app (u v : List Int) : ∀ s, crs (u ++ v) s = crs u s + crs v (crE u s) := by
  induction u with
  | nil => intro s; simp [crs, crE]
  | cons x u ih => intro s; simp only [List.cons_append, crs, crE, ih]; omega
theorem swB_swp {k : Nat} (h : 0 < k) (s : Nat → Bool) : swB k (swB k s) = s := by
  funext q
  unfold swB
  by_cases h1 : q + 1 = k
  · rw [if_pos h1, if_neg (by omega), if_pos rfl, show k - 1 = q by omega]
  · rw [if_neg h1]
    by_cases h2 : q = k
    · rw [if_pos h2, if_pos (by omega), h2]
    · rw [if_neg h2, if_neg h1, if_neg h2]
theorem swB_far {k l : Nat} (hk : 0 < k) (hl : 0 < l) (h : k + 1 < l ∨ l + 1 < k) (s : Nat → Bool) : swB l (swB k s) = swB k (swB l s) := by
  funext q
  unfold swB
  by_cases h1 : q + 1 = l
  · rw [if_pos h1, if_neg (by omega), if_neg (by omega), if_neg (by omega), if_neg (by omega), if_pos h1]
  · rw [if_neg h1]
    by_cases h2 : q = l
    · rw [if_pos h2, if_neg (by omega), if_neg (by omega), if_neg (by omega), if_neg (by omega), if_neg h1, if_pos h2]
    · rw [if_neg h2]
      by_cases h3 : q + 1 = k
      · rw [if_pos h3, if_pos h3, if_neg (by omega), if_neg (by omega)]
      · rw [if_neg h3, if_neg h3]
        by_cases h4 : q = k
        · rw [if_pos h4, if_pos h4, if_neg (by omega), if_neg (by omega)]
        · rw [if_neg h4, if_neg h4, if_neg h1, if_neg h2]
theorem swB_out {k q : Nat} (h1 : q + 1 ≠ k) (h2 : q ≠ k) (s : Nat → Bool) : swB k s q = s q := by
  unfold swB; rw [if_neg h1, if_neg h2]
theorem swB_lo {k q : Nat} (h : q + 1 = k) (s : Nat → Bool) : swB k s q = s k := by unfold swB; rw [if_pos h]
theorem swB_hi (k : Nat) (s : Nat → Bool) : swB k s k = s (k - 1) := by unfold swB; rw [if_neg (by omega), if_pos rfl]
theorem swB_braid {k : Nat} (h : 0 < k) (s : Nat → Bool) : swB k (swB (k + 1) (swB k s)) = swB (k + 1) (swB k (swB (k + 1) s)) := by
  obtain ⟨p, rfl⟩ : ∃ p, k = p + 1 := ⟨k - 1, by omega⟩
  have a1 : swB (p + 1) s p = s (p + 1) := swB_lo rfl s
  have a2 : swB (p + 1) s (p + 1) = s p := swB_hi _ _
  have a3 : swB (p + 1) s (p + 1 + 1) = s (p + 1 + 1) := swB_out (by omega) (by omega) s
  have b1 : swB (p + 1 + 1) (swB (p + 1) s) p = s (p + 1) := by rw [swB_out (by omega) (by omega), a1]
  have b2 : swB (p + 1 + 1) (swB (p + 1) s) (p + 1) = s (p + 1 + 1) := by rw [swB_lo rfl, a3]
  have b3 : swB (p + 1 + 1) (swB (p + 1) s) (p + 1 + 1) = s p := (swB_hi _ _).trans a2
  have c1 : swB (p + 1 + 1) s p = s p := swB_out (by omega) (by omega) s
  have c2 : swB (p + 1 + 1) s (p + 1) = s (p + 1 + 1) := swB_lo rfl s
  have c3 : swB (p + 1 + 1) s (p + 1 + 1) = s (p + 1) := swB_hi _ _
  have d1 : swB (p + 1) (swB (p + 1 + 1) s) p = s (p + 1 + 1) := by rw [swB_lo rfl, c2]
  have d2 : swB (p + 1) (swB (p + 1 + 1) s) (p + 1) = s p := (swB_hi _ _).trans c1
  have d3 : swB (p + 1) (swB (p + 1 + 1) s) (p + 1 + 1) = s (p + 1) := by rw [swB_out (by omega) (by omega), c3]
  funext q
  rcases (show q = p ∨ q = p + 1 ∨ q = p + 1 + 1 ∨ (q ≠ p ∧ q ≠ p + 1 ∧ q ≠ p + 1 + 1) by omega) with rfl | rfl | rfl | ⟨h1, h2, h3⟩
  · rw [swB_lo rfl, b2, swB_out (by omega) (by omega), d1]
  · rw [show swB (p + 1) (swB (p + 1 + 1) (swB (p + 1) s)) (p + 1) = s (p + 1) from (swB_hi _ _).trans b1, swB_lo rfl, d3]
  · rw [swB_out (by omega) (by omega), b3, show swB (p + 1 + 1) (swB (p + 1) (swB (p + 1 + 1) s)) (p + 1 + 1) = s p from (swB_hi _ _).trans d2]
  · rw [swB_out (by omega) (by omega), swB_out (by omega) (by omega), swB_out (by omega) (by omega), swB_out (by omega) (by omega), swB_out (by omega) (by omega), swB_out (by omega) (by omega)]
theorem crs_BE {u v : List Int} (h : BE n u v) : ∀ s, crs u s = crs v s ∧ crE u s = crE v s := by
  induction h with
  | refl => exact fun _ => ⟨rfl, rfl⟩
  | symm _ ih => exact fun s => ⟨(ih s).1.symm, (ih s).2.symm⟩
  | trans _ _ ih1 ih2 => exact fun s => ⟨(ih1 s).1.trans (ih2 s).1, (ih1 s).2.trans (ih2 s).2⟩
  | ctx a b _ ih =>
    intro s
    have h := ih (crE a s)
    simp only [crs_app, crE_app, h.1, h.2, and_self]
  | @cancel x h =>
    intro s
    have h0 : 0 < x.natAbs := by have := h.1; omega
    have e1 : crE [x, -x] s = swB (-x).natAbs (swB x.natAbs s) := rfl
    rw [Int.natAbs_neg, swB_swp h0] at e1
    refine ⟨?_, e1⟩
    show xv x s + (xv (-x) (swB x.natAbs s) + 0) = 0
    unfold xv
    rw [Int.natAbs_neg, swB_hi, swB_lo (by omega), Int.sign_neg]
    by_cases e : s (x.natAbs - 1) = s x.natAbs
    · rw [if_pos e, if_pos e.symm]; rfl
    · rw [if_neg e, if_neg fun h => e h.symm]; omega
  | @far x y hx hy h =>
    intro s
    have hx0 : 0 < x.natAbs := by have := hx.1; omega
    have hy0 : 0 < y.natAbs := by have := hy.1; omega
    refine ⟨?_, swB_far hx0 hy0 (by omega) s⟩
    show xv x s + (xv y (swB x.natAbs s) + 0) = xv y s + (xv x (swB y.natAbs s) + 0)
    unfold xv
    rw [swB_out (by omega) (by omega), swB_out (by omega) (by omega), swB_out (by omega) (by omega), swB_out (by omega) (by omega)]
    omega
  | @braid i h0 h =>
    intro s
    refine ⟨?_, ?_⟩
    · show xv (i : Int) s + (xv ((i + 1 : Nat) : Int) (swB i s) + (xv (i : Int) (swB (i + 1) (swB i s)) + 0)) = xv ((i + 1 : Nat) : Int) s + (xv (i : Int) (swB (i + 1) s) + (xv ((i + 1 : Nat) : Int) (swB i (swB (i + 1) s)) + 0))
      unfold xv
      rw [Int.natAbs_natCast, Int.natAbs_natCast]
      simp only [Nat.add_sub_cancel]
      obtain ⟨p, rfl⟩ : ∃ p, i = p + 1 := ⟨i - 1, by omega⟩
      simp only [Nat.add_sub_cancel]
      have a1 : swB (p + 1) s (p + 1) = s p := swB_hi _ _
      have a2 : swB (p + 1) s (p + 1 + 1) = s (p + 1 + 1) := swB_out (by omega) (by omega) s
      have a3 : swB (p + 1) s p = s (p + 1) := swB_lo rfl s
      have b1 : swB (p + 1 + 1) (swB (p + 1) s) p = s (p + 1) := by rw [swB_out (by omega) (by omega), a3]
      have b2 : swB (p + 1 + 1) (swB (p + 1) s) (p + 1) = s (p + 1 + 1) := by rw [swB_lo rfl, a2]
      have c1 : swB (p + 1 + 1) s p = s p := swB_out (by omega) (by omega) s
      have c2 : swB (p + 1 + 1) s (p + 1) = s (p + 1 + 1) := swB_lo rfl s
      have c3 : swB (p + 1 + 1) s (p + 1 + 1) = s (p + 1) := swB_hi _ _
      have d1 : swB (p + 1) (swB (p + 1 + 1) s) (p + 1) = s p := by rw [swB_hi]; exact c1
      have d2 : swB (p + 1) (swB (p + 1 + 1) s) (p + 1 + 1) = s (p + 1) := by rw [swB_out (by omega) (by omega), c3]
      rw [a1, a2, b1, b2, c1, c2, d1, d2]
      have g1 : ((p + 1 : Nat) : Int).sign = 1 := Int.sign_eq_one_of_pos (by omega)
      have g2 : ((p + 1 + 1 : Nat) : Int).sign = 1 := Int.sign_eq_one_of_pos (by omega)
      rw [g1, g2]
      cases s p <;> cases s (p + 1) <;> cases s (p + 1 + 1) <;> decide
    · show swB _ (swB _ (swB _ s)) = swB _ (swB _ (swB _ s))
      rw [Int.natAbs_natCast, Int.natAbs_natCast]
      exact swB_braid h0 s
def lefts (b : Nat) : Nat → Bool := fun q => decide (q < b)
theorem swB_lefts {b k : Nat} (hk : 0 < k) (h : k ≠ b) : swB k (lefts b) = lefts b := by
  funext q
  unfold swB lefts
  by_cases h1 : q + 1 = k
  · rw [if_pos h1, decide_eq_decide]; omega
  · rw [if_neg h1]
    by_cases h2 : q = k
    · rw [if_pos h2, decide_eq_decide]; omega
    · rw [if_neg h2]
theorem crs_no {w : List Int} (hw : LtW n w) (h : NoB b w) : crs w (lefts b) = 0 := by
  induction w with
  | nil => rfl
  | cons x w ih =>
    have hx := hw x (by simp)
    have hb := h x (by simp)
    have h0 : 0 < x.natAbs := by have := hx.1; omega
    show xv x (lefts b) + crs w (swB x.natAbs (lefts b)) = 0
    rw [swB_lefts h0 hb, ih (fun y hy => hw y (by simp [hy])) fun y hy => h y (by simp [hy])]
    unfold xv lefts
    rw [if_pos (by rw [decide_eq_decide]; omega)]
    rfl
theorem crs_pos {w : List Int} (hw : PosW n w) : ∀ s, 0 ≤ crs w s := by
  induction w with
  | nil => exact fun _ => Int.le_refl _
  | cons x w ih =>
    intro s
    have h1 := ih hw.tl (swB x.natAbs s)
    have h2 : 0 ≤ xv x s := by
      unfold xv
      split
      · exact Int.le_refl _
      · rw [Int.sign_eq_one_of_pos hw.hd.1]; decide
    show 0 ≤ xv x s + _
    omega
theorem crs_has {w : List Int} (hb : 0 < b) (hw : PosW n w) (h : ¬ NoB b w) : 0 < crs w (lefts b) := by
  induction w with
  | nil => exact absurd (fun x hx => by simp at hx) h
  | cons x w ih =>
    have h0 := hw.hd.1
    by_cases e : x.natAbs = b
    · have h1 := crs_pos hw.tl (swB x.natAbs (lefts b))
      show 0 < xv x (lefts b) + _
      have : xv x (lefts b) = 1 := by
        unfold xv lefts
        rw [if_neg (by rw [decide_eq_decide]; omega), Int.sign_eq_one_of_pos h0]
      omega
    · have h1 := ih hw.tl fun k => h fun y hy => by
        rcases List.mem_cons.1 hy with rfl | hy
        · exact e
        · exact k y hy
      show 0 < xv x (lefts b) + crs w (swB x.natAbs (lefts b))
      rw [swB_lefts (by omega) e]
      have h2 : 0 ≤ xv x (lefts b) := by
        unfold xv
        split
        · exact Int.le_refl _
        · rw [Int.sign_eq_one_of_pos h0]; decide
      omega
/-- A positive word that is equal to one that misses an index misses it too. -/
theorem pos_no {w w' : List Int} (hb : 0 < b) (hp : PosW n w') (lw : LtW n w) (h0 : NoB b w) (h : BE n w w') : NoB b w' := by
  apply Classical.byContradiction
  intro k
  have h1 := crs_has hb hp k
  rw [← (crs_BE h (lefts b)).1, crs_no lw h0] at h1
  omega
theorem pos_noG {gs : List Nat} {w w' : List Int} (hg : ∀ b ∈ gs, 0 < b) (hp : PosW n w') (lw : LtW n w) (h0 : NoG gs w) (h : BE n w w') : NoG gs w' := fun b hb => pos_no (hg b hb) hp lw (h0 b hb) h
end
end Go.Proofs.Ytnmklkjlcpgjmaa

namespace Go.Proofs.Ytnmklkjlcpgjmaa
open Go.RowKit Go.Sl

def dW (lo : Nat) : List Nat → List Nat
  | [] => halfN lo (5 - lo)
  | b :: gs => halfN lo (b - lo - 1) ++ dW b gs
/-- The letter's place in its part, from the other end. -/
def fl (lo : Nat) (i : Nat) : List Nat → Nat
  | [] => lo + 4 - i
  | b :: gs => if i + 1 < b then lo + (b - 2) - i else fl b i gs
def garOK (gs : List Nat) : Bool :=
  (dW 0 gs).all (fun i => decide (i + 1 < 6) && !gs.contains (i + 1)) && gs.all (fun b => decide (0 < b)) &&
  (List.range 5).all fun i => gs.contains (i + 1) || (decide (fl 0 i gs + 1 < 6) && !gs.contains (fl 0 i gs + 1) && decide (fl 0 (fl 0 i gs) gs = i) &&
    (match resN 400 [i] (dW 0 gs) with
      | some (d, u) => decide (u = []) && (match resN 400 (d ++ [fl 0 i gs]) (dW 0 gs) with
        | some (a, c) => decide (a = []) && decide (c = [])
        | none => false)
      | none => false))
structure GarI (gs : List Nat) (D : List Int) : Prop where
  gp : ∀ b ∈ gs, 0 < b
  pos : PosW 6 D
  no : NoG gs D
  two : ∀ x : Int, 0 < x → x < 6 → x.natAbs ∉ gs → ∃ y d, 0 < y ∧ y < 6 ∧ y.natAbs ∉ gs ∧ PosW 6 d ∧ BE 6 (x :: d) D ∧ BE 6 (d ++ [y]) D
  two' : ∀ y : Int, 0 < y → y < 6 → y.natAbs ∉ gs → ∃ x d, 0 < x ∧ x < 6 ∧ x.natAbs ∉ gs ∧ PosW 6 d ∧ BE 6 (x :: d) D ∧ BE 6 (d ++ [y]) D
theorem gar_of {gs : List Nat} (h : garOK gs = true) : GarI gs (wL (dW 0 gs)) := by
  unfold garOK at h
  simp only [Bool.and_eq_true] at h
  obtain ⟨⟨h1, h2⟩, h3⟩ := h
  have hin : inN 6 (dW 0 gs) := fun i hi => by
    have := List.all_eq_true.1 h1 i hi
    simp only [Bool.and_eq_true, decide_eq_true_eq] at this
    exact this.1
  have key : ∀ i, i + 1 < 6 → (i + 1) ∉ gs → fl 0 i gs + 1 < 6 ∧ (fl 0 i gs + 1) ∉ gs ∧ fl 0 (fl 0 i gs) gs = i ∧ ∃ d, inN 6 d ∧ BE 6 (ltr i :: wL d) (wL (dW 0 gs)) ∧ BE 6 (wL d ++ [ltr (fl 0 i gs)]) (wL (dW 0 gs)) := by
    intro i hi hg
    have h4 := List.all_eq_true.1 h3 i (List.mem_range.2 (by omega))
    rw [Bool.or_eq_true] at h4
    have h5 := h4.resolve_left (by simpa using hg)
    simp only [Bool.and_eq_true, decide_eq_true_eq] at h5
    obtain ⟨⟨⟨k1, k2⟩, k3⟩, k4⟩ := h5
    refine ⟨k1, by simpa using k2, k3, ?_⟩
    cases e : resN 400 [i] (dW 0 gs) with
    | none => rw [e] at k4; cases k4
    | some p =>
      obtain ⟨d, u⟩ := p
      rw [e] at k4
      simp only [Bool.and_eq_true, decide_eq_true_eq] at k4
      obtain ⟨rfl, k5⟩ := k4
      have r := res_ok (n := 6) (by decide) (by decide) 400 [i] (dW 0 gs) d [] (fun j hj => by rw [List.mem_singleton.1 hj]; exact hi) hin e
      refine ⟨d, r.in1, ?_, ?_⟩
      · have := r.eq
        simpa [wL] using this
      · cases e2 : resN 400 (d ++ [fl 0 i gs]) (dW 0 gs) with
        | none => rw [e2] at k5; cases k5
        | some p =>
          obtain ⟨a, c⟩ := p
          rw [e2] at k5
          simp only [Bool.and_eq_true, decide_eq_true_eq] at k5
          obtain ⟨rfl, rfl⟩ := k5
          have r2 := res_ok (n := 6) (by decide) (by decide) 400 (d ++ [fl 0 i gs]) (dW 0 gs) [] [] (inN_app r.in1 fun j hj => by rw [List.mem_singleton.1 hj]; exact k1) hin e2
          have := r2.eq
          simpa [wL] using this
  have ab : ∀ i : Nat, (ltr i).natAbs = i + 1 := fun i => by unfold ltr; omega
  have lt : ∀ i : Nat, i + 1 < 6 → 0 < ltr i ∧ ltr i < 6 := fun i hi => by unfold ltr; omega
  have of : ∀ x : Int, 0 < x → x < 6 → ∃ i, i + 1 < 6 ∧ x = ltr i := fun x h h' => ⟨x.toNat - 1, by omega, by unfold ltr; omega⟩
  refine ⟨fun b hb => by have := List.all_eq_true.1 h2 b hb; simpa using this, inN_pos hin, fun b hb x hx => ?_, fun x hx hx' hg => ?_, fun y hy hy' hg => ?_⟩
  · obtain ⟨i, hi, rfl⟩ := List.mem_map.1 hx
    have := List.all_eq_true.1 h1 i hi
    simp only [Bool.and_eq_true] at this
    have h4 : (i + 1) ∉ gs := by simpa using this.2
    rw [ab]
    exact fun e => h4 (e ▸ hb)
  · obtain ⟨i, hi, rfl⟩ := of x hx hx'
    rw [ab] at hg
    obtain ⟨k1, k2, _, d, hd, e1, e2⟩ := key i hi hg
    exact ⟨ltr (fl 0 i gs), wL d, (lt _ k1).1, (lt _ k1).2, by rw [ab]; exact k2, inN_pos hd, e1, e2⟩
  · obtain ⟨i, hi, rfl⟩ := of y hy hy'
    rw [ab] at hg
    obtain ⟨k1, k2, k3, _⟩ := key i hi hg
    obtain ⟨_, _, _, d, hd, e1, e2⟩ := key (fl 0 i gs) k1 k2
    rw [k3] at e2
    exact ⟨ltr (fl 0 i gs), wL d, (lt _ k1).1, (lt _ k1).2, by rw [ab]; exact k2, inN_pos hd, e1, e2⟩
section
variable {gs : List Nat} {D : List Int}
theorem GarI.dno (G : GarI gs D) {x : Int} {d : List Int} (hx : 0 < x ∧ x < 6) (hd : PosW 6 d) (h : BE 6 (x :: d) D) : NoG gs d := by
  have := pos_noG G.gp (.cons hx hd) G.pos.lt G.no h.symm
  exact fun b hb y hy => this b hb y (by simp [hy])
/-- D passes positive words. -/
theorem GarI.passR (G : GarI gs D) : ∀ {c : List Int}, PosW 6 c → NoG gs c → ∃ c', PosW 6 c' ∧ NoG gs c' ∧ BE 6 (c ++ D) (D ++ c') := by
  intro c
  induction c with
  | nil => exact fun _ _ => ⟨[], posW_nil, fun b _ x hx => by simp at hx, by simp; exact .refl _⟩
  | cons x c ih =>
    intro hp hn
    obtain ⟨c', pc, nc, e⟩ := ih hp.tl fun b hb y hy => hn b hb y (by simp [hy])
    obtain ⟨y, d, y0, y6, yg, pd, e1, e2⟩ := G.two x hp.hd.1 hp.hd.2 fun hm => hn _ hm x (by simp) rfl
    refine ⟨y :: c', .cons ⟨y0, y6⟩ pc, fun b hb z hz => ?_, ?_⟩
    · rcases List.mem_cons.1 hz with rfl | hz
      · exact fun e => yg (e ▸ hb)
      · exact nc b hb z hz
    · -- x c D = x D c' = x d y c' = D y c'
      have a1 := e.pre [x]
      have a2 := ((e2.symm).pre [x]).post c'
      have a3 := e1.post (y :: c')
      simp only [List.cons_append, List.nil_append, List.append_assoc] at a1 a2 a3 ⊢
      exact (a1.trans a2).trans a3
theorem GarI.passL (G : GarI gs D) : ∀ {c : List Int}, PosW 6 c → NoG gs c → ∃ c', PosW 6 c' ∧ NoG gs c' ∧ BE 6 (D ++ c) (c' ++ D) := by
  intro c
  induction c with
  | nil => exact fun _ _ => ⟨[], posW_nil, fun b _ x hx => by simp at hx, by simp; exact .refl _⟩
  | cons y c ih =>
    intro hp hn
    obtain ⟨c', pc, nc, e⟩ := ih hp.tl fun b hb y hy => hn b hb y (by simp [hy])
    obtain ⟨x, d, x0, x6, xg, pd, e1, e2⟩ := G.two' y hp.hd.1 hp.hd.2 fun hm => hn _ hm y (by simp) rfl
    refine ⟨x :: c', .cons ⟨x0, x6⟩ pc, fun b hb z hz => ?_, ?_⟩
    · rcases List.mem_cons.1 hz with rfl | hz
      · exact fun e => xg (e ▸ hb)
      · exact nc b hb z hz
    · -- D y c = x d y c = x D c = x c' D
      have a1 := e1.symm.post (y :: c)
      have a2 := (e2.pre [x]).post c
      have a3 := e.pre [x]
      simp only [List.cons_append, List.nil_append, List.append_assoc] at a1 a2 a3 ⊢
      exact (a1.trans a2).trans a3
def pw (D : List Int) (k : Nat) : List Int := (List.replicate k D).flatten
theorem pw_succ (k : Nat) : pw D (k + 1) = D ++ pw D k := by unfold pw; rw [List.replicate_succ, List.flatten_cons]
theorem pw_snoc (k : Nat) : pw D (k + 1) = pw D k ++ D := by
  induction k with
  | zero => simp [pw]
  | succ k ih =>
    rw [pw_succ (k + 1)]
    conv => lhs; rw [ih, ← List.append_assoc, ← pw_succ]
theorem pw_add (a b : Nat) : pw D (a + b) = pw D a ++ pw D b := by
  induction a with
  | zero => simp [pw]
  | succ a ih => rw [show a + 1 + b = (a + b) + 1 by omega, pw_succ, ih, pw_succ, List.append_assoc]
theorem GarI.pwp (G : GarI gs D) (k : Nat) : PosW 6 (pw D k) ∧ NoG gs (pw D k) := by
  induction k with
  | zero => exact ⟨posW_nil, fun b _ x hx => by simp [pw] at hx⟩
  | succ k ih => rw [pw_succ]; exact ⟨G.pos.app ih.1, G.no.app ih.2⟩
/-- D to the number of negative letters times a word is positive. -/
theorem GarI.low (G : GarI gs D) : ∀ (k : Nat) (h : List Int), h.length ≤ k → LtW 6 h → NoG gs h → ∃ c, PosW 6 c ∧ NoG gs c ∧ BE 6 (pw D (negN h) ++ h) c := by
  intro k
  induction k with
  | zero =>
    intro h hl _ _
    obtain rfl := List.eq_nil_of_length_eq_zero (show h.length = 0 by omega)
    exact ⟨[], posW_nil, fun b _ x hx => by simp at hx, .refl _⟩
  | succ k ih =>
    intro h hl lh hn
    rcases snoc_cases h with rfl | ⟨u, x, rfl⟩
    · exact ⟨[], posW_nil, fun b _ x hx => by simp at hx, .refl _⟩
    · obtain ⟨c, pc, nc, e⟩ := ih u (by simp at hl; omega) lh.left hn.left
      have hx := lh x (by simp)
      have hxg : x.natAbs ∉ gs := fun hm => hn _ hm x (by simp) rfl
      rw [negN_append]
      rcases Int.lt_or_lt_of_ne hx.1 with h0 | h0
      · have e1 : negN [x] = 1 := by simp [negN, h0]
        obtain ⟨y, d, _, _, _, pd, f1, f2⟩ := G.two' (-x) (by omega) (by have := hx.2; omega) (by rw [Int.natAbs_neg]; exact hxg)
        obtain ⟨c', pc', nc', e3⟩ := G.passL pc nc
        have hyd := G.dno (x := y) (d := d) ⟨by omega, by omega⟩ pd f1
        refine ⟨c' ++ d, pc'.app pd, nc'.app hyd, ?_⟩
        rw [e1, pw_succ]
        -- D pw u x = D c x = c' D x = c' d (-x) x = c' d
        have a1 := (e.pre D).post [x]
        have a2 := e3.post [x]
        have a3 := (f2.symm.pre c').post [x]
        have a4 := (BE.cancel (n := 6) (x := -x) (lt_neg hx)).pre (c' ++ d)
        rw [Int.neg_neg] at a4
        simp only [List.append_assoc, List.cons_append, List.nil_append, List.append_nil] at a1 a2 a3 a4 ⊢
        exact ((a1.trans a2).trans a3).trans a4
      · have e1 : negN [x] = 0 := by simp [negN]; omega
        refine ⟨c ++ [x], pc.app (.one ⟨h0, by have := hx.2; omega⟩), fun b hb y hy => ?_, ?_⟩
        · rcases List.mem_append.1 hy with hy | hy
          · exact nc b hb y hy
          · rw [List.mem_singleton.1 hy]; exact fun e => hxg (e ▸ hb)
        · rw [e1, Nat.add_zero]
          have := e.post [x]
          simpa using this
theorem GarI.high (G : GarI gs D) : ∀ (h : List Int), LtW 6 h → NoG gs h → ∃ c, PosW 6 c ∧ NoG gs c ∧ BE 6 (h ++ pw D (negN h)) c := by
  intro h
  induction h with
  | nil => exact fun _ _ => ⟨[], posW_nil, fun b _ x hx => by simp at hx, .refl _⟩
  | cons x u ih =>
    intro lh hn
    obtain ⟨c, pc, nc, e⟩ := ih (fun y hy => lh y (by simp [hy])) fun b hb y hy => hn b hb y (by simp [hy])
    have hx := lh x (by simp)
    have hxg : x.natAbs ∉ gs := fun hm => hn _ hm x (by simp) rfl
    have en : negN (x :: u) = negN [x] + negN u := negN_append [x] u
    rw [en]
    rcases Int.lt_or_lt_of_ne hx.1 with h0 | h0
    · have e1 : negN [x] = 1 := by simp [negN, h0]
      obtain ⟨y, d, _, _, _, pd, f1, f2⟩ := G.two (-x) (by omega) (by have := hx.2; omega) (by rw [Int.natAbs_neg]; exact hxg)
      obtain ⟨c', pc', nc', e3⟩ := G.passR pc nc
      have hyd := G.dno (x := -x) (d := d) ⟨by omega, by have := hx.2; omega⟩ pd f1
      refine ⟨d ++ c', pd.app pc', hyd.app nc', ?_⟩
      rw [e1, Nat.add_comm, pw_snoc]
      have a1 := (e.pre [x]).post D
      have a2 := e3.pre [x]
      have a3 := (f1.symm.pre [x]).post c'
      have a4 := (BE.cancel (n := 6) (x := x) hx).post (d ++ c')
      simp only [List.append_assoc, List.cons_append, List.nil_append] at a1 a2 a3 a4 ⊢
      exact ((a1.trans a2).trans a3).trans a4
    · have e1 : negN [x] = 0 := by simp [negN]; omega
      refine ⟨x :: c, .cons ⟨h0, by have := hx.2; omega⟩ pc, fun b hb y hy => ?_, ?_⟩
      · rcases List.mem_cons.1 hy with rfl | hy
        · exact fun e => hxg (e ▸ hb)
        · exact nc b hb y hy
      · rw [e1, Nat.zero_add]
        have := e.pre [x]
        simpa using this
end
end Go.Proofs.Ytnmklkjlcpgjmaa

namespace Go.Proofs.Ytnmklkjlcpgjmaa
open Go.RowKit Go.Sl

section
variable {gs : List Nat} {D E w A B A0 : List Int}
theorem box_para (hD : IsUp 6 D (hf 6)) (lw : LtW 6 w) {r : Nat} (hb : ∀ p s q t, w = p ++ s → w = q ++ t → LeB 6 q (p ++ powB (r : Int) D)) :
    ∃ A B, LoB 6 w A ∧ HiB 6 w B ∧ LeB 6 B (A ++ powB (r : Int) D) ∧ - exB A ≤ r * 15 ∧ (∀ x, LoB 6 w x → LeB 6 x A) ∧ ∀ x, HiB 6 w x → LeB 6 B x := by
  have hDl : D.length = 15 := by rw [hD.len (by decide)]; decide
  obtain ⟨A, hA, hAm⟩ := low_exists (by decide) (by decide) hD lw
  obtain ⟨B, hB, hBm⟩ := high_exists (by decide) (by decide) hD lw
  have upA : HiB 6 w (A ++ powB (r : Int) D) := ⟨hA.1.app (powB_lt hD.lt _), fun p t e => by
    have hlo : LoB 6 w (p ++ powB (-(r : Int)) D) := ⟨by rw [e] at lw; exact lw.left.app (powB_lt hD.lt _), fun q t2 eq => le_shift (by decide) hD (hb q t2 p t eq e)⟩
    exact le_unshift (by decide) hD (hAm _ hlo)⟩
  refine ⟨A, B, hA, hB, hBm _ upA, ?_, hAm, hBm⟩
  have h3 : LoB 6 w ([] ++ powB (-(r : Int)) D) := ⟨powB_lt hD.lt _, fun q t e => le_shift (by decide) hD (hb q t [] w e rfl)⟩
  have e2 := (hAm _ h3).exLe
  rw [exB_append, powB_ex hD.posW, hDl, Int.neg_mul] at e2
  have : exB ([] : List Int) = 0 := rfl
  omega
/-- All vertices between A and B lie in the coset. -/
def InC (gs : List Nat) (A0 A B : List Int) : Prop := ∀ z, LeB 6 A z → LeB 6 z B → ∃ s, PosW 6 s ∧ NoG gs s ∧ BE 6 (A0 ++ s) z
theorem in_coset (G : GarI gs E) (lw : LtW 6 w) (nw : NoG gs w) (hAm : ∀ x, LoB 6 w x → LeB 6 x A) (hBm : ∀ x, HiB 6 w x → LeB 6 B x) : ∃ A0, LtW 6 A0 ∧ InC gs A0 A B := by
  have pN := G.pwp (negN w)
  have lN := pN.1.lt
  refine ⟨invB (pw E (negN w)), invB_lt lN, ?_⟩
  have lo : LoB 6 w (invB (pw E (negN w))) := ⟨invB_lt lN, fun p t e => by
    rw [e] at lw nw
    obtain ⟨c, pc, _, h⟩ := G.low p.length p (Nat.le_refl _) lw.left nw.left
    have en : negN w = (negN w - negN p) + negN p := by rw [e, negN_append]; omega
    refine ⟨pw E (negN w - negN p) ++ c, (G.pwp _).1.app pc, ?_⟩
    have a1 := (h.symm.pre (pw E (negN w - negN p))).pre (invB (pw E (negN w)))
    have a2 : pw E (negN w - negN p) ++ (pw E (negN p) ++ p) = pw E (negN w) ++ p := by rw [← List.append_assoc, ← pw_add, ← en]
    rw [a2] at a1
    have a3 := (BE.invMul lN).post p
    simp only [List.append_assoc, List.nil_append] at a1 a3 ⊢
    exact a1.trans a3⟩
  have hi : HiB 6 w (pw E (posN w)) := ⟨(G.pwp _).1.lt, fun p t e => by
    rw [e] at lw nw
    obtain ⟨c, pc, _, h⟩ := G.high (invB p) (invB_lt lw.left) nw.left.inv
    rw [negN_inv] at h
    have en : posN w = posN p + (posN w - posN p) := by rw [e, posN_append]; omega
    refine ⟨c ++ pw E (posN w - posN p), pc.app (G.pwp _).1, ?_⟩
    have a1 := (h.symm.pre p).post (pw E (posN w - posN p))
    have a3 := ((BE.mulInv lw.left).post (pw E (posN p))).post (pw E (posN w - posN p))
    have a2 : pw E (posN p) ++ pw E (posN w - posN p) = pw E (posN w) := by rw [← pw_add, ← en]
    simp only [List.append_assoc, List.nil_append] at a1 a3 ⊢
    rw [a2] at a1 a3
    exact a1.trans a3⟩
  intro z hz hzB
  obtain ⟨t1, p1, e1⟩ := hAm _ lo
  obtain ⟨t3, p3, e3⟩ := hBm _ hi
  obtain ⟨a, pa, ea⟩ := hz
  obtain ⟨b, pb, eb⟩ := hzB
  have es : BE 6 (invB (pw E (negN w)) ++ (t1 ++ a)) z := by
    have := (e1.post a).trans ea
    simpa using this
  have hall : BE 6 (pw E (negN w) ++ pw E (posN w)) ((t1 ++ a) ++ (b ++ t3)) := by
    have h1 := (((es.post b).trans eb).post t3).trans e3
    have h2 := h1.pre (pw E (negN w))
    have h3 := (BE.mulInv lN).post ((t1 ++ a) ++ (b ++ t3))
    simp only [List.append_assoc, List.nil_append] at h2 h3 ⊢
    exact h2.symm.trans h3
  have hno := pos_noG G.gp ((p1.app pa).app (pb.app p3)) (pN.1.app (G.pwp _).1).lt (pN.2.app (G.pwp _).2) hall
  exact ⟨t1 ++ a, p1.app pa, hno.left, es⟩
theorem isUp_gap {n b : Nat} {u a : List Int} (hb : b ≤ n) (h : IsUp n u a) : NoB b u → ∀ q, q < b → nth a q < b := by
  induction h with
  | nil => intro _ q hq; rw [nth_iota n q (by omega)]; omega
  | @snoc w f j h hj hu ih =>
    intro hx q hq
    have h1 := ih (fun x hx2 => hx x (by simp [hx2])) q hq
    have h2 := hx (ltr j) (by simp)
    have h3 : j + 1 ≠ b := by unfold ltr at h2; omega
    by_cases hl : q < f.length
    · rw [nth_swapV f j q hl]
      unfold swV
      grind
    · have e1 : nth (swapV f j) q = 0 := by unfold nth; rw [List.getD_eq_getElem?_getD, List.getElem?_eq_none (by rw [swapV_length]; omega)]; rfl
      rw [e1]; omega
theorem wdF_gap {n b : Nat} {T : List (List Int)} {y : List Int} (hb : b ≤ n) (h : WdF n T y) : NoB b y → ∀ a ∈ T, ∀ q, q < b → nth a q < b := by
  induction h with
  | nil => intro _ a ha; simp at ha
  | cons h k ih =>
    intro hx a ha
    rcases List.mem_cons.1 ha with rfl | ha
    · exact isUp_gap hb h fun x hx2 => hx x (by simp [hx2])
    · exact ih (fun x hx2 => hx x (by simp [hx2])) a ha
def gapP (n : Nat) (gs : List Nat) : List (List Int) := (allP n).filter fun a => gs.all fun b => (List.range b).all fun q => decide (nth a q < b)
/-- The count. -/
theorem span_para (hD : IsUp 6 D (hf 6)) (hg : ∀ b ∈ gs, 0 < b ∧ b ≤ 6) (l0 : LtW 6 A0) (hC : InC gs A0 A B) {r f : Nat} (hf : cntQ (triG (gapP 6 gs) 6) r (fullM 6) ≤ f) {Q : List Int} (lQ : LtW 6 Q) (hAQ : LeB 6 A Q) (hQB : LeB 6 Q B) (Z : List (List Int)) (hZ : ∀ z ∈ Z, LeB 6 Q z ∧ LeB 6 z (Q ++ powB (r : Int) D) ∧ LeB 6 z B) (hd : Z.Pairwise fun a b => ¬ BE 6 a b) : Z.length ≤ f := by
  refine Nat.le_trans ?_ hf
  obtain ⟨s, ps, ns, es⟩ := hC Q hAQ hQB
  rw [← seqsG_len]
  have := dist_len (X := (seqsG (gapP 6 gs) 6 r (fullM 6)).map fun T => Q ++ wdOf 6 T) (fun z hz => ?_) hd
  · simpa using this
  · obtain ⟨⟨t, ht, et⟩, ⟨u, hu, h4⟩, hzB⟩ := hZ z hz
    obtain ⟨s', ps', ns', es'⟩ := hC z (hAQ.trans ⟨t, ht, et⟩) hzB
    have e1 : BE 6 s' (s ++ t) := by
      have h1 := (es.post t).trans (et.trans es'.symm)
      rw [List.append_assoc] at h1
      exact (h1.cancelL l0).symm
    have nt : NoG gs t := (pos_noG (fun b hb => (hg b hb).1) (ps.app ht) ps'.lt ns' e1).right
    have h6 : BE 6 (Q ++ (t ++ u)) (Q ++ powB r D) := by
      have a1 := (et.post u).trans h4
      simpa using a1
    have h7 := h6.cancelL lQ
    obtain ⟨T, y, gT, ti, hlen, _, hy, hyt⟩ := tight_of (by decide) (by decide) hD ht hu h7
    have sy := pos_noG (fun b hb => (hg b hb).1) hy.posW ht.lt nt hyt.symm
    refine ⟨Q ++ wdOf 6 T, List.mem_map.2 ⟨T, mem_seqsG T r _ hlen gT ti (fun a ha => ?_) fun a T' _ => sub_full 6 a, rfl⟩, ?_⟩
    · refine List.mem_filter.2 ⟨mem_allP (gT a ha), List.all_eq_true.2 fun b hb => List.all_eq_true.2 fun q hq => ?_⟩
      exact decide_eq_true (wdF_gap (hg b hb).2 hy (sy b hb) a ha q (List.mem_range.1 hq))
    · have h8 := ((wdOf_spec hy).uniq (by decide) hy).trans hyt
      exact et.symm.trans (h8.symm.pre Q)
/-- A path: the bottom of what was met falls at most m times. -/
theorem chain_para (hD : IsUp 6 D (hf 6)) (hA : LtW 6 A) {r f : Nat} (hf : ∀ Q, LtW 6 Q → LeB 6 A Q → LeB 6 Q B → ∀ Z : List (List Int), (∀ z ∈ Z, LeB 6 Q z ∧ LeB 6 z (Q ++ powB (r : Int) D) ∧ LeB 6 z B) → Z.Pairwise (fun a b => ¬ BE 6 a b) → Z.length ≤ f) : ∀ (m : Nat) (Q : List Int) (Z : List (List Int)), LtW 6 Q → LeB 6 A Q → LeB 6 Q B → exB Q - exB A ≤ m → (∀ z ∈ Z, LtW 6 z ∧ LeB 6 A z ∧ LeB 6 z (Q ++ powB (r : Int) D) ∧ LeB 6 z B) → Z.Pairwise (fun a b => ¬ BE 6 a b) → Z.Pairwise (fun a b => LeB 6 b (a ++ powB (r : Int) D)) → Z.length ≤ (m + 1) * (f + 1) := by
  intro m
  induction m with
  | zero =>
    intro Q Z lQ hQ hQB he hZ hd _
    have h1 := hf Q lQ hQ hQB Z (fun z hz => ⟨?_, (hZ z hz).2.2⟩) hd
    · omega
    · have h3 := hQ.exLe
      exact (hZ z hz).2.1.congr (le_eq hQ (by omega)) (.refl _)
  | succ m ih =>
    intro Q Z lQ hQ hQB he hZ hd hp
    rcases first_not (fun z => LeB 6 Q z) Z with h | ⟨Z1, z, Z2, rfl, h1, h3⟩
    · have h4 := hf Q lQ hQ hQB Z (fun z hz => ⟨h z hz, (hZ z hz).2.2⟩) hd
      have : (m + 1 + 1) * (f + 1) = (m + 1) * (f + 1) + (f + 1) := Nat.succ_mul _ _
      omega
    · have hz := hZ z (by simp)
      obtain ⟨G, lG, gA, gQ, gz, gr⟩ := gcd_exists (n := 6) (by decide) (by decide) hD hA hQ hz.2.1
      have hlt : exB G < exB Q := by
        have h4 := gQ.exLe
        rcases Int.lt_or_eq_of_le h4 with h5 | h5
        · exact h5
        · exact absurd (gz.congr (le_eq gQ h5) (.refl _)) h3
      have d1 := List.pairwise_append.1 hd
      have p1 := List.pairwise_append.1 hp
      have h4 := hf Q lQ hQ hQB Z1 (fun y hy => ⟨h1 y hy, (hZ y (by simp [hy])).2.2⟩) d1.1
      have h5 := ih G Z2 lG gA (gQ.trans hQB) (by omega) (fun b hb => by
        have hb3 := hZ b (by simp [hb])
        refine ⟨hb3.1, hb3.2.1, ?_, hb3.2.2.2⟩
        have k1 := (List.pairwise_cons.1 p1.2.1).1 b hb
        exact le_unshift (by decide) hD (gr _ (hb3.1.app (powB_lt hD.lt _)) (le_shift (by decide) hD hb3.2.2.1) (le_shift (by decide) hD k1))) (List.pairwise_cons.1 d1.2.1).2 (List.pairwise_cons.1 p1.2.1).2
      have : (m + 1 + 1) * (f + 1) = (m + 1) * (f + 1) + (f + 1) := Nat.succ_mul _ _
      rw [List.length_append, List.length_cons]
      omega
theorem para_low (hD : IsUp 6 D (hf 6)) (G : GarI gs E) (h6 : ∀ b ∈ gs, b ≤ 6) (lw : LtW 6 w) (nw : NoG gs w) (hl : w.length ≤ 40) {g h r f : Nat} (hg : Rho 6 g D w) (hh : Rho 6 h D (negL w)) (hgh : g ≤ h) (h16 : h ≤ 16) (hr : g ≤ r) (hf : cntQ (triG (gapP 6 gs) 6) r (fullM 6) ≤ f) (hf6 : f ≤ 600000000) : ∃ N Lm W, Way N Lm W ∧ Lm ≤ 16000000000000 ∧ ∃ m, W w m := by
  obtain ⟨A, B, hA, hB, hAB, hm, hAm, hBm⟩ := box_para hD lw (r := h) fun p s q t hp hq => both_rho hD hg hh hgh (Nat.le_refl _) hp hq
  obtain ⟨A0, l0, hC⟩ := in_coset G lw nw hAm hBm
  have hdr : DrF 6 A B [] w := fun p s e => ⟨hA.2 p s e, hB.2 p s e⟩
  obtain ⟨X, hX, _⟩ := cover_of (n := 6) (by decide) (by decide) hD hA.1 hB.1 hAB (L := (exB B - exB A).toNat) (by omega)
  have hF : Few 6 r D A B (241 * (f + 1)) := fun Z hZ hd hp => by
    have e0 : exB ([] : List Int) = 0 := rfl
    exact chain_para hD hA.1 (B := B) (f := f) (fun Q lQ hAQ hQB Z hZ hd => span_para hD (fun b hb => ⟨G.gp b hb, h6 b hb⟩) l0 hC hf lQ hAQ hQB Z hZ hd) 240 [] Z (fun x hx => by simp at hx) (hA.2 [] w rfl) (hB.2 [] w rfl) (by omega) (fun z hz => ⟨(hZ z hz).1, (hZ z hz).2.1.1, by simpa using (hZ z hz).2.2, (hZ z hz).2.1.2⟩) hd hp
  obtain ⟨m, hm0⟩ := OnWayR.start (X := X) (r := r) hD lw hdr hl (hg.mono hD hr)
  exact ⟨6, _, _, way_of (l := 40) (by decide) (by decide) hD hA.1 hX hF, by omega, m, hm0⟩
theorem para_box (hD : IsUp 6 D (hf 6)) (G : GarI gs E) (h6 : ∀ b ∈ gs, b ≤ 6) (lw : LtW 6 w) (nw : NoG gs w) (hl : w.length ≤ 40) {r f : Nat} (hb : ∀ p s q t, w = p ++ s → w = q ++ t → LeB 6 q (p ++ powB (r : Int) D)) (hf : cntQ (triG (gapP 6 gs) 6) r (fullM 6) ≤ f) (hf6 : f ≤ 600000000000) : ∃ N Lm W, Way N Lm W ∧ Lm ≤ 15500000000000 ∧ ∃ m, W w m := by
  obtain ⟨A, B, hA, hB, hAB, hm, hAm, hBm⟩ := box_para hD lw hb
  obtain ⟨A0, l0, hC⟩ := in_coset G lw nw hAm hBm
  have hdr : DrF 6 A B [] w := fun p s e => ⟨hA.2 p s e, hB.2 p s e⟩
  obtain ⟨X, hX, _⟩ := cover_of (n := 6) (by decide) (by decide) hD hA.1 hB.1 hAB (L := (exB B - exB A).toNat) (by omega)
  have hF : Few 6 r D A B f := fun Z hZ hd _ => span_para hD (fun b hb => ⟨G.gp b hb, h6 b hb⟩) l0 hC hf hA.1 (LeB.refl _) ((hA.2 [] w rfl).trans (hB.2 [] w rfl)) Z (fun z hz => ⟨(hZ z hz).2.1.1, (hZ z hz).2.1.2.trans hAB, (hZ z hz).2.1.2⟩) hd
  have hr : Rho 6 r D w := fun q s e p t e2 => hb p (t ++ s) q s (by rw [e, e2]; simp) e
  obtain ⟨m, hm0⟩ := OnWayR.start (X := X) (r := r) hD lw hdr hl hr
  exact ⟨6, _, _, way_of (l := 40) (by decide) (by decide) hD hA.1 hX hF, by omega, m, hm0⟩
end
/-! ### The tables -/
def gaps1 : List (List Nat) := [[1], [2], [3], [4], [5]]
def gaps2 : List (List Nat) := [[1, 2], [1, 3], [1, 4], [1, 5], [2, 3], [2, 4], [2, 5], [3, 4], [3, 5], [4, 5]]
theorem gars_ok : ((gaps1 ++ gaps2).all garOK) = true := by decide +kernel
theorem gap_tab1 : (gaps1.all fun gs => let t6 := tabQ (triG (gapP 6 gs) 6) keys6 6; let t7 := stepQ (triG (gapP 6 gs) 6) keys6 t6; decide (lookQ t6 (fullM 6) ≤ 600000000 ∧ lookQ t7 (fullM 6) ≤ 11000000000)) = true := by decide +kernel
theorem gap_tab2 : (gaps2.all fun gs => decide (lookQ (tabQ (triG (gapP 6 gs) 6) keys6 9) (fullM 6) ≤ 50000000)) = true := by decide +kernel
theorem gap_keys (gs : List Nat) : ∀ t ∈ triG (gapP 6 gs) 6, t.2.1 ∈ keys6 := fun t ht => by
  unfold triG at ht
  obtain ⟨a, ha, rfl⟩ := List.mem_map.1 ht
  have ha2 : a ∈ allP 6 := (List.mem_filter.1 ha).1
  have := List.all_eq_true.1 keys6_ok (ldP 6 a, rdP 6 a, inv a) (List.mem_map.2 ⟨a, ha2, rfl⟩)
  simpa using this
theorem full_key : fullM 6 ∈ keys6 := by decide +kernel
theorem gap_cnt1 {gs : List Nat} (h : gs ∈ gaps1) : cntQ (triG (gapP 6 gs) 6) 6 (fullM 6) ≤ 600000000 ∧ cntQ (triG (gapP 6 gs) 6) 7 (fullM 6) ≤ 11000000000 := by
  have := List.all_eq_true.1 gap_tab1 gs h
  have h1 := of_decide_eq_true this
  rw [← tabQ_eq _ keys6 (gap_keys gs) 6 _ full_key, ← tabQ_eq _ keys6 (gap_keys gs) 7 _ full_key]
  exact h1
theorem gap_cnt2 {gs : List Nat} (h : gs ∈ gaps2) : cntQ (triG (gapP 6 gs) 6) 9 (fullM 6) ≤ 50000000 := by
  have := List.all_eq_true.1 gap_tab2 gs h
  rw [← tabQ_eq _ keys6 (gap_keys gs) 9 _ full_key]
  exact of_decide_eq_true this
end Go.Proofs.Ytnmklkjlcpgjmaa

namespace Go.Proofs.Ytnmklkjlcpgjmaa
open Go.RowKit Go.Sl

/-- A word has a way within the bound. -/
def HasWay (w : List Int) : Prop := ∃ N Lm W, Way N Lm W ∧ Lm ≤ 16000000000000 ∧ ∃ m, W w m
section
variable {gs : List Nat} {D w : List Int}
theorem lt_idx {n : Nat} {x : Int} (h : LtB n x) : ∃ i, i + 1 < n ∧ (x = ltr i ∨ x = -ltr i) := by
  rcases Int.lt_or_lt_of_ne h.1 with xn | xp
  · obtain ⟨i, hi, e⟩ := neg_of h xn
    exact ⟨i, hi, .inr e⟩
  · obtain ⟨i, hi, e⟩ := pos_of h xp
    exact ⟨i, hi, .inl e⟩
/-- No index with both signs: nothing to reduce. -/
theorem way_none (lw : LtW 6 w) (h : bothB 6 w = false) (hl : w.length ≤ 40) : HasWay w := by
  refine ⟨6, 40, fun u _ => (∀ x ∈ u, x ∈ w) ∧ u.length ≤ 40, ⟨fun h => h.2, fun {u m} h => ⟨fun x hx => h.1 x (redL_mem hx), Nat.le_trans (redL_length u) h.2⟩, fun {P M s x m} hW _ _ => ?_⟩, by decide, 0, fun x hx => hx, hl⟩
  exfalso
  have h1 : x ∈ w := hW.1 x (by simp)
  have h2 : -x ∈ w := hW.1 (-x) (by simp)
  obtain ⟨i, hi, e | e⟩ := lt_idx (lw x h1)
  · rw [e] at h1 h2; exact bothB_not h hi h1 h2
  · rw [e] at h1 h2
    rw [Int.neg_neg] at h2
    exact bothB_not h hi h2 h1
theorem redL_one1 {u : List Int} (h : NoB 1 u) : redL (u ++ [1]) = redL u ++ [1] := by
  unfold redL
  rw [act_append]
  show (psh (act [] u) 1).reverse = _
  have hno : ∀ y ∈ act [] u, y ≠ -1 := fun y hy e => by
    have h1 : y ∈ u := redL_mem (by unfold redL; simpa using hy)
    exact h y h1 (by rw [e]; rfl)
  cases hs : act [] u with
  | nil => rfl
  | cons y t =>
    rw [hs] at hno
    have e : psh (y :: t) 1 = if y = -1 then t else 1 :: y :: t := rfl
    rw [e, if_neg (hno y (by simp))]
    simp
/-- One letter 1 behind a word without it stays. -/
theorem way_snoc {u : List Int} (h1 : NoB 1 u) (h : ∃ N Lm W, Way N Lm W ∧ Lm ≤ 15500000000000 ∧ ∃ m, W u m) : HasWay (u ++ [1]) := by
  obtain ⟨N, Lm, W, hW, hL, m, hm⟩ := h
  refine ⟨N, Lm + 1, fun v m => ∃ u, v = u ++ [1] ∧ W u m ∧ NoB 1 u, ⟨?_, ?_, ?_⟩, by omega, m, u, rfl, hm, h1⟩
  · rintro v m ⟨u, rfl, hu, _⟩
    have := hW.len hu
    simp; omega
  · rintro v m ⟨u, rfl, hu, hn⟩
    exact ⟨redL u, redL_one1 hn, hW.red hu, fun x hx => hn x (redL_mem hx)⟩
  · rintro P M s x m ⟨u, e, hu, hn⟩ hc hM
    rcases snoc_cases s with rfl | ⟨s', z, rfl⟩
    · exfalso
      have e2 : (P ++ x :: M) ++ [-x] = u ++ [1] := by rw [← e]
      have h3 := List.append_inj_right' e2 rfl
      have h4 := List.append_inj_left' e2 rfl
      have hx : x = -1 := by have := (List.cons.inj h3).1; omega
      exact hn x (by rw [← h4]; simp) (by rw [hx]; rfl)
    · have e2 : (P ++ x :: M ++ (-x) :: s') ++ [z] = u ++ [1] := by rw [← e]; simp
      have h3 := (List.cons.inj (List.append_inj_right' e2 rfl)).1
      have h4 := List.append_inj_left' e2 rfl
      subst h3
      rw [← h4] at hu hn
      obtain ⟨k1, k2⟩ := hW.handle hu hc hM
      refine ⟨k1, P ++ (midW x M ++ s'), by simp, k2, fun y hy => ?_⟩
      have hx1 : x.natAbs ≠ 1 := hn x (by simp)
      have hM1 : ∀ y ∈ M, y.natAbs ≠ 1 := fun y hy => hn y (by simp [hy])
      rcases List.mem_append.1 hy with hy | hy
      · exact hn y (by simp [hy])
      · rcases List.mem_append.1 hy with hy | hy
        · obtain ⟨c, hcM, hyc⟩ := List.mem_flatMap.1 hy
          unfold midB at hyc
          split at hyc
          · rename_i hcx
            have hc0 := hM c hcM
            have hc1 := hM1 c hcM
            have s1 : ∀ (a b : Int), b.natAbs = 1 → (b * a).natAbs = a.natAbs := fun a b hb => by rw [Int.natAbs_mul, hb, Nat.one_mul]
            have s2 : ∀ a : Int, (a.sign = 1 ∨ a.sign = -1 ∨ a = 0) := fun a => by
              rcases Int.lt_trichotomy a 0 with h | h | h
              · exact .inr (.inl (Int.sign_eq_neg_one_of_neg h))
              · exact .inr (.inr h)
              · exact .inl (Int.sign_eq_one_of_pos h)
            by_cases hx0 : x = 0
            · subst hx0
              exact absurd hcx (by simpa using hc1)
            have sx : x.sign.natAbs = 1 := by rcases s2 x with h | h | h <;> first | (rw [h]; rfl) | exact absurd h hx0
            have sc : c.sign.natAbs = 1 := by rcases s2 c with h | h | h <;> first | (rw [h]; rfl) | (subst h; exact absurd hcx (by simp))
            simp only [List.mem_cons, List.not_mem_nil, or_false] at hyc
            rcases hyc with rfl | rfl | rfl
            · rw [Int.natAbs_neg, s1 _ _ sx]; omega
            · rw [s1 _ _ sc]; omega
            · rw [s1 _ _ sx]; omega
          · rw [List.mem_singleton.1 hyc]; exact hM1 c hcM
        · exact hn y (by simp [hy])
/-- A word that misses an index, or two. -/
theorem seen_count (w : List Int) : seenN 6 w = (if seenI w 0 then 1 else 0) + (if seenI w 1 then 1 else 0) + (if seenI w 2 then 1 else 0) + (if seenI w 3 then 1 else 0) + if seenI w 4 then 1 else 0 := by
  have : List.range (6 - 1) = [0, 1, 2, 3, 4] := rfl
  unfold seenN
  rw [this]
  simp only [List.countP_cons, List.countP_nil, decide_eq_true_eq]
  omega
theorem no_of (lw : LtW 6 w) {j : Nat} (h : ¬ seenI w j) : NoB (j + 1) w := fun x hx e => by
  obtain ⟨i, _, k | k⟩ := lt_idx (lw x hx)
  · have : i = j := by rw [k] at e; unfold ltr at e; omega
    subst this
    exact h (.inl (k ▸ hx))
  · have : i = j := by rw [k, Int.natAbs_neg] at e; unfold ltr at e; omega
    subst this
    exact h (.inr (k ▸ hx))
theorem gap_one (lw : LtW 6 w) (h : seenN 6 w ≤ 4) : ∃ gs ∈ gaps1, NoG gs w := by
  have one : ∀ j, ¬ seenI w j → NoG [j + 1] w := fun j hj b hb => by rw [List.mem_singleton.1 hb]; exact no_of lw hj
  rw [seen_count] at h
  by_cases h0 : seenI w 0
  · by_cases h1 : seenI w 1
    · by_cases h2 : seenI w 2
      · by_cases h3 : seenI w 3
        · by_cases h4 : seenI w 4
          · rw [if_pos h0, if_pos h1, if_pos h2, if_pos h3, if_pos h4] at h; omega
          · exact ⟨[5], by decide, one 4 h4⟩
        · exact ⟨[4], by decide, one 3 h3⟩
      · exact ⟨[3], by decide, one 2 h2⟩
    · exact ⟨[2], by decide, one 1 h1⟩
  · exact ⟨[1], by decide, one 0 h0⟩
theorem gap_two (lw : LtW 6 w) (h : seenN 6 w ≤ 3) : ∃ gs ∈ gaps2, NoG gs w := by
  have two : ∀ i j, ¬ seenI w i → ¬ seenI w j → NoG [i + 1, j + 1] w := fun i j hi hj b hb => by
    simp only [List.mem_cons, List.not_mem_nil, or_false] at hb
    rcases hb with rfl | rfl
    · exact no_of lw hi
    · exact no_of lw hj
  rw [seen_count] at h
  by_cases h0 : seenI w 0 <;> by_cases h1 : seenI w 1 <;> by_cases h2 : seenI w 2 <;> by_cases h3 : seenI w 3 <;> by_cases h4 : seenI w 4
  all_goals first
    | exact ⟨[1, 2], by decide, two 0 1 h0 h1⟩
    | exact ⟨[1, 3], by decide, two 0 2 h0 h2⟩
    | exact ⟨[1, 4], by decide, two 0 3 h0 h3⟩
    | exact ⟨[1, 5], by decide, two 0 4 h0 h4⟩
    | exact ⟨[2, 3], by decide, two 1 2 h1 h2⟩
    | exact ⟨[2, 4], by decide, two 1 3 h1 h3⟩
    | exact ⟨[2, 5], by decide, two 1 4 h1 h4⟩
    | exact ⟨[3, 4], by decide, two 2 3 h2 h3⟩
    | exact ⟨[3, 5], by decide, two 2 4 h2 h4⟩
    | exact ⟨[4, 5], by decide, two 3 4 h3 h4⟩
    | (simp only [h0, h1, h2, h3, h4, if_true, if_false] at h; omega)
theorem gaps_le1 {gs : List Nat} (h : gs ∈ gaps1) : ∀ b ∈ gs, b ≤ 6 := by
  have : (gaps1.all fun gs => gs.all fun b => decide (b ≤ 6)) = true := by decide
  intro b hb
  have := List.all_eq_true.1 (List.all_eq_true.1 this gs h) b hb
  simpa using this
theorem gaps_le2 {gs : List Nat} (h : gs ∈ gaps2) : ∀ b ∈ gs, b ≤ 6 := by
  have : (gaps2.all fun gs => gs.all fun b => decide (b ≤ 6)) = true := by decide
  intro b hb
  have := List.all_eq_true.1 (List.all_eq_true.1 this gs h) b hb
  simpa using this
theorem gar1 {gs : List Nat} (h : gs ∈ gaps1) : GarI gs (wL (dW 0 gs)) := gar_of (List.all_eq_true.1 gars_ok gs (List.mem_append_left _ h))
theorem gar2 {gs : List Nat} (h : gs ∈ gaps2) : GarI gs (wL (dW 0 gs)) := gar_of (List.all_eq_true.1 gars_ok gs (List.mem_append_right _ h))
theorem NoG.neg {u : List Int} (h : NoG gs u) : NoG gs (negL u) := fun b hb x hx => by
  have := h b hb (-x) (negL_mem hx)
  rwa [Int.natAbs_neg] at this
theorem seen_le (w : List Int) : seenN 6 w ≤ 5 := by
  rw [seen_count]
  split <;> split <;> split <;> split <;> split <;> omega
theorem both_seen {w : List Int} (h : bothB 6 w = true) : 1 ≤ seenN 6 w := by
  obtain ⟨j, hj, h1, _⟩ := bothB_iff.1 h
  unfold seenN
  exact List.countP_pos_iff.2 ⟨j, List.mem_range.2 (by omega), decide_eq_true (.inl h1)⟩
/-- The words whose sign is asked for. -/
theorem way_sign (hD : IsUp 6 D (hf 6)) (lw : LtW 6 w) (hl : w.length ≤ 40) {X : Nat → List Int} {e : Nat} (h : GSt 6 D X w e) (hk : w.length ≤ 16 + e) : HasWay w := by
  cases hb : bothB 6 w
  · exact way_none lw hb hl
  have hw : wgt 6 w = seenN 6 w + 1 := by unfold wgt; rw [if_pos hb]
  have h1 := both_seen hb
  have h5 := seen_le w
  by_cases hs5 : seenN 6 w = 5
  · exact way_st lw hl hD h (by omega)
  obtain ⟨g, h, S, T, c, k⟩ := h
  have g1 := c.p.g1
  have g2 := c.m.g1
  by_cases hs4 : seenN 6 w = 4
  · obtain ⟨gs, hgs, hn⟩ := gap_one lw (by omega)
    have hc := (gap_cnt1 hgs).1
    rcases Nat.le_total g h with hgh | hgh
    · exact para_low hD (gar1 hgs) (gaps_le1 hgs) lw hn hl c.p.rho c.m.rho hgh (by omega) (r := 6) (by omega) hc (Nat.le_refl _)
    · refine way_flip (para_low hD (gar1 hgs) (gaps_le1 hgs) (negL_lt lw) hn.neg (by rw [negL_len]; exact hl) c.m.rho (by rw [negL_negL]; exact c.p.rho) hgh (by omega) (r := 6) (by omega) hc (Nat.le_refl _))
  · obtain ⟨gs, hgs, hn⟩ := gap_two lw (by omega)
    have hc := gap_cnt2 hgs
    rcases Nat.le_total g h with hgh | hgh
    · exact para_low hD (gar2 hgs) (gaps_le2 hgs) lw hn hl c.p.rho c.m.rho hgh (by omega) (r := 9) (by omega) hc (by decide)
    · refine way_flip (para_low hD (gar2 hgs) (gaps_le2 hgs) (negL_lt lw) hn.neg (by rw [negL_len]; exact hl) c.m.rho (by rw [negL_negL]; exact c.p.rho) hgh (by omega) (r := 9) (by omega) hc (by decide))
end
end Go.Proofs.Ytnmklkjlcpgjmaa

namespace Go.Proofs.Ytnmklkjlcpgjmaa
open Go.RowKit Go.Sl

section
variable {D v c : List Int} {r : Nat}
def MidP (r : Nat) (D c v z : List Int) : Prop := LeB 6 z c ∧ ∀ Y, LtW 6 Y → LeB 6 Y (c ++ powB (r : Int) D) → LeB 6 Y (v ++ powB (r : Int) D) → LeB 6 Y (z ++ powB (r : Int) D)
def OnP (v z : List Int) : Prop := ∃ p s, v = p ++ s ∧ BE 6 p z
theorem pts_le (hD : IsUp 6 D (hf 6)) (lv : LtW 6 v) (hc : ∃ s, v = c ++ s) (hb : ∀ p s q t, v = p ++ s → v = q ++ t → LeB 6 q (p ++ powB (r : Int) D)) {z1 z2 : List Int} (h1 : OnP v z1 ∨ MidP r D c v z1) (h2 : OnP v z2 ∨ MidP r D c v z2) : LeB 6 z1 (z2 ++ powB (r : Int) D) := by
  obtain ⟨sc, ec⟩ := hc
  have lc : LtW 6 c := by rw [ec] at lv; exact lv.left
  rcases h1 with ⟨p1, s1, e1, b1⟩ | ⟨m1, m1'⟩
  · have l1 : LtW 6 p1 := by rw [e1] at lv; exact lv.left
    rcases h2 with ⟨p2, s2, e2, b2⟩ | ⟨_, m2'⟩
    · exact (hb p2 s2 p1 s1 e2 e1).congr b1 (b2.post _)
    · exact (m2' p1 l1 (hb c sc p1 s1 ec e1) (hb v [] p1 s1 (by simp) e1)).congr b1 (.refl _)
  · rcases h2 with ⟨p2, s2, e2, b2⟩ | ⟨_, m2'⟩
    · exact (m1.trans (hb p2 s2 c sc e2 ec)).congr (.refl _) (b2.post _)
    · exact m1.trans (m2' c lc (k_up hD c) (hb v [] c sc (by simp) ec))
/-- The relation's two sides. -/
inductive RelT (n : Nat) : List Int → List Int → Prop
  | near {i j : Nat} (hi : i + 1 < n) (hj : j + 1 < n) (h : i + 1 = j ∨ j + 1 = i) : RelT n [ltr i, ltr j, ltr i] [ltr j, ltr i, ltr j]
  | inv {i : Nat} (hi : i + 1 < n) : RelT n [ltr i, -ltr i] []
  | far {i j : Nat} (hi : i + 1 < n) (hj : j + 1 < n) (h : i + 1 < j ∨ j + 1 < i) : RelT n [ltr i, -ltr j] [-ltr j, ltr i]
theorem lt3w {n : Nat} {a b c : Int} (h1 : LtB n a) (h2 : LtB n b) (h3 : LtB n c) : LtW n [a, b, c] := lwc h1 (lwc h2 (lw1 h3))
theorem RelT.lt {n : Nat} {p q : List Int} (h : RelT n p q) : LtW n p ∧ LtW n q := by
  cases h with
  | near hi hj _ => exact ⟨lt3w (lt_ltr hi) (lt_ltr hj) (lt_ltr hi), lt3w (lt_ltr hj) (lt_ltr hi) (lt_ltr hj)⟩
  | inv hi => exact ⟨lwc (lt_ltr hi) (lw1 (lt_neg (lt_ltr hi))), fun x hx => by simp at hx⟩
  | far hi hj _ => exact ⟨lwc (lt_ltr hi) (lw1 (lt_neg (lt_ltr hj))), lwc (lt_neg (lt_ltr hj)) (lw1 (lt_ltr hi))⟩
theorem RelT.be {n : Nat} {p q : List Int} (h : RelT n p q) : BE n p q := by
  cases h with
  | near hi hj h => exact braid_near hi hj h
  | inv hi => exact .cancel (lt_ltr hi)
  | far hi hj h => exact .far (lt_ltr hi) (lt_neg (lt_ltr hj)) (by rw [Int.natAbs_neg]; unfold ltr; omega)
theorem RelT.mono {n m : Nat} {p q : List Int} (h : RelT n p q) (hm : n ≤ m) : RelT m p q := by
  cases h with
  | near hi hj h => exact .near (by omega) (by omega) h
  | inv hi => exact .inv (by omega)
  | far hi hj h => exact .far (by omega) (by omega) h
theorem pref_app {a b z s : List Int} (h : a ++ b = z ++ s) : (∃ t, a = z ++ t) ∨ ∃ t, z = a ++ t ∧ b = t ++ s := by
  rcases List.append_eq_append_iff.1 h with ⟨t, e1, e2⟩ | ⟨t, e1, _⟩
  · exact .inr ⟨t, e1, e2⟩
  · exact .inl ⟨t, e1⟩
theorem invB_app (a b : List Int) : invB (a ++ b) = invB b ++ invB a := invB_append a b
/-- The points of the path. -/
theorem rel_pts (hD : IsUp 6 D (hf 6)) {p q y : List Int} (hr : RelT 6 p q) (ly : LtW 6 y) (r : Nat) : ∀ z s, invB y ++ invB p ++ q ++ y = z ++ s → OnP (invB y ++ invB p) z ∨ MidP r D (invB y) (invB y ++ invB p) z := by
  have lY : LtW 6 (invB y) := invB_lt ly
  have lp := hr.lt.1
  have back : BE 6 (invB y ++ invB p ++ q) (invB y) := by
    have h1 := (hr.be.symm).pre (invB y ++ invB p)
    have h2 := (BE.invMul lp).pre (invB y)
    rw [List.append_nil] at h2
    simp only [List.append_assoc] at h1 h2 ⊢
    exact h1.trans h2
  intro z s e
  rcases pref_app e with ⟨t, e1⟩ | ⟨t, e1, e2⟩
  · rcases pref_app e1 with ⟨t2, e3⟩ | ⟨q1, e3, e4⟩
    · exact .inl ⟨z, t2, e3, .refl _⟩
    · -- inside q
      cases hr with
      | near hi hj h =>
        rename_i i j
        have pq : PosW 6 ([ltr j, ltr i, ltr j] : List Int) := .cons (pos_ltr hj) (.cons (pos_ltr hi) (.one (pos_ltr hj)))
        rw [e4] at pq
        refine .inr ⟨⟨t, pq.right, ?_⟩, fun Y _ _ hY => ?_⟩
        · rw [← e1]; exact back
        · rw [e3]; exact hY.trans (k_mono (by decide) hD (LeB.add pq.left))
      | inv hi =>
        have : q1 = [] := (List.append_eq_nil_iff.1 e4.symm).1
        rw [this, List.append_nil] at e3
        exact .inl ⟨_, [], by rw [e3, List.append_nil], .refl _⟩
      | far hi hj h =>
        rename_i i j
        rcases q1 with _ | ⟨a, _ | ⟨b, q1⟩⟩
        · rw [List.append_nil] at e3
          exact .inl ⟨_, [], by rw [e3, List.append_nil], .refl _⟩
        · obtain ⟨rfl, e5⟩ := List.cons.inj e4
          have ei : invB [ltr i, -ltr j] = [ltr j, -ltr i] := by simp [invB]
          rw [ei] at e3
          -- z = c j -i -j ~ c j -j -i ~ c -i
          have b1 : BE 6 (invB y ++ [ltr j] ++ [-ltr j]) (invB y) := cancelAt (lt_ltr hj)
          have b2 : BE 6 z (invB y ++ [-ltr i]) := by
            have h1 := (BE.far (n := 6) (x := -ltr i) (y := -ltr j) (lt_neg (lt_ltr hi)) (lt_neg (lt_ltr hj)) (by rw [Int.natAbs_neg, Int.natAbs_neg]; unfold ltr; omega)).pre (invB y ++ [ltr j])
            have h2 := b1.post [-ltr i]
            rw [e3]
            simp only [List.append_assoc, List.cons_append, List.nil_append] at h1 h2 ⊢
            exact h1.trans h2
          refine .inr ⟨((neg1 hi).le (invB y)).congr b2.symm (.refl _), fun Y lY' h1 h2 => ?_⟩
          have h3 := k_lcmR (n := 6) (r := r) (by decide) (by decide) hD hi hj (p := invB y ++ [ltr j]) lY' (by rw [ei] at h2; simpa using h2) (h1.congr (.refl _) ((b1.symm).post _))
          have e6 : invB (lcmB i j) = [-ltr j, -ltr i] := by
            unfold lcmB; rw [if_pos h]; simp [invB]
          rw [e6] at h3
          refine h3.congr (.refl _) (BE.post _ ?_)
          have h4 := b1.post [-ltr i]
          simp only [List.append_assoc, List.cons_append, List.nil_append] at h4 ⊢
          exact h4.trans b2.symm
        · have h0 := (List.cons.inj (List.cons.inj e4).2).2
          obtain ⟨rfl, rfl⟩ := List.append_eq_nil_iff.1 h0.symm
          rw [List.append_nil] at e4 e1
          rw [← e1]
          exact .inl ⟨invB y, _, rfl, back.symm⟩
  · -- along y
    have e3 : invB y = invB s ++ invB t := by rw [e2, invB_app]
    refine .inl ⟨invB s, invB t ++ invB p, by rw [e3]; simp, ?_⟩
    rw [e1]
    have lt' : LtW 6 t := by rw [e2] at ly; exact ly.left
    have h1 := back.post t
    have h2 := (BE.invMul lt').pre (invB s)
    rw [e3] at h1 ⊢
    simp only [List.append_assoc, List.append_nil] at h1 h2 ⊢
    exact (h1.trans h2).symm
theorem rel_pairs (hD : IsUp 6 D (hf 6)) {p q y : List Int} (hr : RelT 6 p q) (ly : LtW 6 y) (hb : ∀ p' s q' t, invB y ++ invB p = p' ++ s → invB y ++ invB p = q' ++ t → LeB 6 q' (p' ++ powB (r : Int) D)) :
    ∀ p' s q' t, invB y ++ invB p ++ q ++ y = p' ++ s → invB y ++ invB p ++ q ++ y = q' ++ t → LeB 6 q' (p' ++ powB (r : Int) D) := fun p' s q' t e1 e2 =>
  pts_le hD (LtW.app (invB_lt ly) (invB_lt hr.lt.1)) ⟨_, rfl⟩ hb (rel_pts hD hr ly r q' t e2) (rel_pts hD hr ly r p' s e1)
/-- One letter more. -/
theorem snoc_pairs (hD : IsUp 6 D (hf 6)) {u : List Int} {i : Nat} (hi : i + 1 < 6) (hb : ∀ p' s q' t, u = p' ++ s → u = q' ++ t → LeB 6 q' (p' ++ powB (r : Int) D)) :
    ∀ p' s q' t, u ++ [ltr i] = p' ++ s → u ++ [ltr i] = q' ++ t → LeB 6 q' (p' ++ powB ((r + 1 : Nat) : Int) D) := by
  have e1 : ∀ z : List Int, BE 6 (z ++ powB (r : Int) D ++ powB ((1 : Nat) : Int) D) (z ++ powB ((r + 1 : Nat) : Int) D) := fun z => by
    have := (powB_add (n := 6) hD.lt (r : Int) 1).symm.pre z
    have e4 : ((r + 1 : Nat) : Int) = (r : Int) + 1 := by omega
    rw [e4]
    simpa using this
  have up1 : LeB 6 (u ++ [ltr i]) (u ++ powB ((1 : Nat) : Int) D) := und_top (n := 6) (w := u) (by decide) hD hi _ rfl
  intro p' s q' t ep eq
  rcases app_one ep with ⟨p2, e2⟩ | e2
  · rcases app_one eq with ⟨q2, e3⟩ | e3
    · exact (hb p' p2 q' q2 e2 e3).trans (pow_mono hD (Nat.le_succ r) p')
    · rw [e3]
      exact (up1.trans (k_mono (r := 1) (by decide) hD (hb p' p2 u [] e2 (by simp)))).congr (.refl _) (e1 p')
  · rw [e2]
    rcases app_one eq with ⟨q2, e3⟩ | e3
    · have h1 := (hb u [] q' q2 (by simp) e3).trans (pow_mono hD (Nat.le_succ r) u)
      exact h1.trans (k_mono (by decide) hD (LeB.add (PosW.one (pos_ltr hi))))
    · rw [e3]; exact k_up hD _
theorem pairs_mono (hD : IsUp 6 D (hf 6)) {u : List Int} {r' : Nat} (h : r ≤ r') (hb : ∀ p' s q' t, u = p' ++ s → u = q' ++ t → LeB 6 q' (p' ++ powB (r : Int) D)) :
    ∀ p' s q' t, u = p' ++ s → u = q' ++ t → LeB 6 q' (p' ++ powB (r' : Int) D) := fun p' s q' t e1 e2 => (hb p' s q' t e1 e2).trans (pow_mono hD h p')
theorem para_weak {u : List Int} (h : ∃ N Lm W, Way N Lm W ∧ Lm ≤ 15500000000000 ∧ ∃ m, W u m) : HasWay u := by
  obtain ⟨N, Lm, W, hW, hL, m, hm⟩ := h
  exact ⟨N, Lm, W, hW, by omega, m, hm⟩
/-- What is compared. -/
theorem way_cmp (hD : IsUp 6 D (hf 6)) {p q y : List Int} (hr : RelT 6 p q) (ly : LtW 6 y) (hl : y.length ≤ 7) {X : Nat → List Int} {e : Nat} (h : GSt 6 D X (invB y ++ invB p) e) (hk : (invB y ++ invB p).length ≤ 9 + e) (hw2 : 2 ≤ wgt 6 (invB y ++ invB p)) :
    HasWay (invB y ++ invB p ++ q ++ y) ∧ HasWay (invB y ++ invB p ++ q ++ y ++ [1]) := by
  obtain ⟨v, hv⟩ : ∃ v, invB y ++ invB p = v := ⟨_, rfl⟩
  have lv : LtW 6 v := by rw [← hv]; exact LtW.app (invB_lt ly) (invB_lt hr.lt.1)
  have iy : (invB y).length = y.length := by simp [invB]
  have lq : q.length ≤ 3 := by cases hr <;> simp
  have lp : (invB p).length ≤ 3 := by cases hr <;> simp [invB]
  obtain ⟨g, h, S, T, c, k⟩ := h
  have g1 := c.p.g1
  have g2 := c.m.g1
  have key : ∀ r, g ≤ r → h ≤ r → ∀ p' s q' t, invB y ++ invB p ++ q ++ y = p' ++ s → invB y ++ invB p ++ q ++ y = q' ++ t → LeB 6 q' (p' ++ powB (r : Int) D) := fun r a b => rel_pairs hD hr ly fun p' s q' t e1 e2 => both_rho hD c.p.rho c.m.rho a b e1 e2
  have hs := seen_le (invB y ++ invB p)
  have hsw : seenN 6 (invB y ++ invB p) ≤ wgt 6 (invB y ++ invB p) := by unfold wgt; omega
  obtain ⟨u, hu⟩ : ∃ u, invB y ++ invB p ++ q ++ y = u := ⟨_, rfl⟩
  have lu : LtW 6 u := by rw [← hu, hv]; exact (lv.app hr.lt.2).app ly
  have hul : u.length ≤ 20 := by rw [← hu]; simp only [List.length_append]; omega
  have l1 : LtW 6 (u ++ [1]) := lu.app (lw1 (lt_ltr (i := 0) (by decide)))
  have hul1 : (u ++ [1]).length ≤ 40 := by simp; omega
  -- letters of u
  have hno : ∀ gs, NoG gs (invB y ++ invB p) → NoG gs u := fun gs hn => by
    have ny : NoG gs y := by have := hn.left.inv; rwa [invB_invB] at this
    have np : NoG gs p := by have := hn.right.inv; rwa [invB_invB] at this
    have nq : NoG gs q := fun b hb x hx => by
      have hp := np b hb
      cases hr with
      | near hi hj _ =>
        simp only [List.mem_cons, List.not_mem_nil, or_false] at hx
        rcases hx with rfl | rfl | rfl
        · exact hp _ (by simp)
        · exact hp _ (by simp)
        · exact hp _ (by simp)
      | inv hi => simp at hx
      | far hi hj _ =>
        simp only [List.mem_cons, List.not_mem_nil, or_false] at hx
        rcases hx with rfl | rfl
        · exact hp _ (by simp)
        · exact hp _ (by simp)
    rw [← hu]
    exact (hn.app nq).app ny
  rw [hu] at key ⊢
  have one : ∀ {gs : List Nat} {r f : Nat}, GarI gs (wL (dW 0 gs)) → (∀ b ∈ gs, b ≤ 6) → NoG gs u → cntQ (triG (gapP 6 gs) 6) r (fullM 6) ≤ f → f ≤ 600000000000 → g + 1 ≤ r → h + 1 ≤ r → HasWay u ∧ HasWay (u ++ [1]) := by
    intro gs r f G h6 hn hc hf a b
    have k1 := key r (by omega) (by omega)
    have w1 := para_box hD G h6 lu hn (by omega) k1 hc hf
    refine ⟨para_weak w1, ?_⟩
    by_cases h1 : (1 : Nat) ∈ gs
    · exact way_snoc (hn 1 h1) w1
    · have n1 : NoG gs (u ++ [1]) := hn.app fun b hb x hx e => by
        rw [List.mem_singleton.1 hx] at e
        have : b = 1 := by omega
        exact h1 (this ▸ hb)
      obtain ⟨r', rfl⟩ : ∃ r', r = r' + 1 := ⟨r - 1, by omega⟩
      exact para_weak (para_box hD G h6 l1 n1 hul1 (snoc_pairs hD (i := 0) (by decide) (key r' (by omega) (by omega))) hc hf)
  by_cases hs5 : seenN 6 (invB y ++ invB p) = 5
  · have k5 := key 5 (by omega) (by omega)
    exact ⟨way_box lu (by omega) hD (pairs_mono hD (r' := 6) (by decide) k5), way_box l1 hul1 hD (snoc_pairs hD (i := 0) (by decide) k5)⟩
  by_cases hs4 : seenN 6 (invB y ++ invB p) = 4
  · obtain ⟨gs, hgs, hn⟩ := gap_one (by rw [hv]; exact lv) (show seenN 6 (invB y ++ invB p) ≤ 4 by omega)
    exact one (gar1 hgs) (gaps_le1 hgs) (hno gs hn) (gap_cnt1 hgs).2 (by decide) (by omega) (by omega)
  · obtain ⟨gs, hgs, hn⟩ := gap_two (by rw [hv]; exact lv) (show seenN 6 (invB y ++ invB p) ≤ 3 by omega)
    exact one (gar2 hgs) (gaps_le2 hgs) (hno gs hn) (gap_cnt2 hgs) (by decide) (by omega) (by omega)
end
end Go.Proofs.Ytnmklkjlcpgjmaa


/- The normal form of an inverse braid: as many factors, the power turned about. No program. -/
import Derived.Test.YtnkahkahcajahaaGarForm
namespace Go.Proofs.Ytnkahkahcajahaa
open Go.RowKit Go.Sl

section
variable {n : Nat} {a b c d g : List Int}
theorem left_at (ha : Pn n a) (hg : Pn n g) (e : thenL g a = hf n) {q : Nat} (hq : q < n) : nth a (nth g q).toNat = (n : Int) - 1 - q := by
  have := congrArg (fun l => nth l q) e
  rwa [nth_thenL _ _ _ (by rw [hg.len]; exact hq), nth_hf hq] at this
theorem left_nth (ha : Pn n a) (hg : Pn n g) (e : thenL g a = hf n) {q : Nat} (hq : q < n) : nth g q = nth (backL a) (n - 1 - q) := by
  have h1 := left_at ha hg e hq
  have hr := hg.range hq
  have h2 := back_at ha (q := (nth g q).toNat) (by omega)
  rw [h1, show ((n : Int) - 1 - q).toNat = n - 1 - q by omega] at h2
  rw [h2]; omega
theorem left_back (ha : Pn n a) (hg : Pn n g) (e : thenL g a = hf n) {x : Nat} (hx : x < n) : nth (backL g) x = (n : Int) - 1 - nth a x := by
  obtain ⟨q, hq, e1, e2⟩ := hit hg hx
  have h1 := left_at ha hg e hq
  rw [e1, Int.toNat_natCast] at h1
  rw [e2, h1]; omega
theorem left_dn (ha : Pn n a) (hg : Pn n g) (e : thenL g a = hf n) {i : Nat} (hi : i + 1 < n) : dn g i ↔ up a (n - 2 - i) := by
  unfold dn up
  rw [left_nth ha hg e hi, left_nth ha hg e (show i < n by omega), show n - 1 - (i + 1) = n - 2 - i by omega, show n - 1 - i = n - 2 - i + 1 by omega]
theorem left_up (ha : Pn n a) (hg : Pn n g) (e : thenL g a = hf n) {i : Nat} (hi : i + 1 < n) : up g i ↔ dn a i := by
  unfold dn up
  rw [left_back ha hg e hi, left_back ha hg e (show i < n by omega)]; omega
theorem left_exists (hn : n ≤ 1000) (ha : Pn n a) : ∃ g, Pn n g ∧ thenL g a = hf n ∧ inv g + inv a = inv (hf n) := by
  obtain ⟨g, hg, e, hi⟩ := compl hn (turnP n a) (pn_turn ha)
  have h1 := compl_turn (pn_turn ha) hg e
  rw [turn_turn ha] at h1
  rw [inv_turn hn a ha] at hi
  exact ⟨g, hg, h1, by omega⟩
theorem tight_snoc : ∀ (X : List (List Int)), Tight n (X ++ [c]) → (∀ i, i + 1 < n → dn d i → ¬ up c i) → Tight n (X ++ [c, d])
  | [], _, k => tight_cons (tight_one d) k
  | [x], h, k => tight_cons (tight_snoc [] h.tl k) h.pair
  | x :: y :: X, h, k => tight_cons (tight_snoc (y :: X) h.tl k) h.pair
theorem tight_turn {F : List (List Int)} (g : Good n F) (t : Tight n F) : Tight n (F.map (turnP n)) := fun G s => by
  have h1 := step_turn s (good_turn g)
  rw [map_turn_turn g] at h1
  exact t _ h1
theorem turn_mem {F : List (List Int)} (g : Good n F) {x : List Int} (hx : turnP n x = x) (h : x ∉ F) : x ∉ F.map (turnP n) := fun hm => by
  obtain ⟨y, hy, e⟩ := List.mem_map.1 hm
  have h1 := turn_turn (g y hy)
  rw [e, hx] at h1
  exact h (h1 ▸ hy)

theorem iota_end (hn : n ≤ 1000) : ∀ F : List (List Int), Good n F → Reach n (iota n :: F) (F ++ [iota n])
  | [], _ => .refl _
  | a :: F, gd => by
    have r := rp hn (pn_iota hn) a gd.hd (by rw [iota_then gd.hd, inv_iota]; omega)
    rw [iota_then gd.hd] at r
    exact (r.post F).trans ((iota_end hn F gd.tl).cons a)

theorem inv_exists (hn : n ≤ 1000) (h2 : 2 ≤ n) : ∀ F : List (List Int), Good n F → Tight n F → hf n ∉ F → iota n ∉ F →
    ∃ B : List (List Int), B.length = F.length ∧ Good n B ∧ Tight n B ∧ hf n ∉ B ∧ iota n ∉ B ∧ Eqv n (-(F.length : Int), B ++ F) (0, []) ∧ ∀ a F', F = a :: F' → ∃ B' g, B = B' ++ [g] ∧ Pn n g ∧ thenL g a = hf n := by
  intro F
  induction F with
  | nil => intro _ _ _ _; exact ⟨[], rfl, good_nil n, tight_nil, by simp, by simp, .refl _, fun a F' e => by cases e⟩
  | cons a F ih =>
    intro gd t nh ni
    obtain ⟨B, bl, bg, bt, bh, bi, be, bs⟩ := ih gd.tl t.tl (fun h => nh (List.mem_cons_of_mem _ h)) (fun h => ni (List.mem_cons_of_mem _ h))
    obtain ⟨g, hg, e, hinv⟩ := left_exists hn gd.hd
    have gh : g ≠ hf n := fun e1 => by
      subst e1
      refine ni ?_
      have : a = iota n := iota_of gd.hd fun i hi => ?_
      · rw [this]; simp
      · have := (left_dn gd.hd (pn_hf hn) e (i := n - 2 - i) (by omega)).1 (dn_hf (by omega))
        rwa [show n - 2 - (n - 2 - i) = i by omega] at this
    have gi : g ≠ iota n := fun e1 => by
      subst e1
      rw [iota_then gd.hd] at e
      exact nh (by rw [e]; simp)
    have gB := good_turn bg
    refine ⟨B.map (turnP n) ++ [g], by simp [bl], gB.app (good_one hn hg), ?_, ?_, ?_, ?_, fun a' F' e' => ⟨B.map (turnP n), g, rfl, hg, by cases e'; exact e⟩⟩
    · cases F with
      | nil =>
        have : B = [] := List.eq_nil_of_length_eq_zero bl
        subst this
        exact tight_one g
      | cons b F' =>
        obtain ⟨B', gb, rfl, hgb, eb⟩ := bs b F' rfl
        rw [List.map_append, List.append_assoc]
        have ht := tight_turn bg bt
        rw [List.map_append] at ht
        refine tight_snoc _ ht fun i hi hd hu => ?_
        rw [up_turn hgb hi, left_up gd.tl.hd hgb eb (by omega)] at hu
        rw [left_dn gd.hd hg e hi] at hd
        exact t.pair (n - 2 - i) (by omega) hu hd
    · intro hm
      rcases List.mem_append.1 hm with h | h
      · exact turn_mem bg turn_hf bh h
      · simp at h; exact gh h.symm
    · intro hm
      rcases List.mem_append.1 hm with h | h
      · exact turn_mem bg turn_iota bi h
      · simp at h; exact gi h.symm
    · have r1 : Reach n [g, a] [hf n, iota n] := by
        have := rp hn hg a gd.hd (by rw [e]; omega)
        rwa [e] at this
      have r2 : Reach n (iota n :: F) (F ++ [iota n]) := iota_end hn F gd.tl
      have hG : Good n (B.map (turnP n) ++ (g :: a :: F)) := gB.app (.cons hg gd)
      have s1 : Reach n (B.map (turnP n) ++ (g :: a :: F)) (B.map (turnP n) ++ (hf n :: (F ++ [iota n]))) :=
        ((r1.post F).pre _).trans ((r2.cons (hf n)).pre _)
      have g2 : Good n (B.map (turnP n) ++ (hf n :: F)) := gB.app (.cons (pn_hf hn) gd.tl)
      have s2 : Reach n (B.map (turnP n) ++ (hf n :: F)) (hf n :: (B ++ F)) := by
        have := (half_front hn (B.map (turnP n)) gB).post F
        rw [map_turn_turn bg] at this
        simpa using this
      rw [List.append_assoc]
      refine .trans (eqv_reach _ s1 hG) ?_
      rw [show B.map (turnP n) ++ (hf n :: (F ++ [iota n])) = (B.map (turnP n) ++ (hf n :: F)) ++ [iota n] by simp]
      refine .trans (.trail _ g2) (.trans (eqv_reach _ s2 g2) (.trans (.half _ (bg.app gd.tl)) ?_))
      rw [show -((a :: F).length : Int) + 1 = -(F.length : Int) by simp; omega]
      exact be

theorem strip_is_tight (hn : n ≤ 1000) : ∀ (T : List (List Int)), Good n T → Tight n T → Tight n (T.filter fun p => decide (p ≠ hf n ∧ p ≠ iota n)) := by
  intro T
  induction T with
  | nil => intro _ t; exact t
  | cons a T ih =>
    intro g t
    by_cases e : a = hf n
    · rw [List.filter_cons_of_neg (by simp [e])]
      exact ih g.tl t.tl
    · have hno := tight_lead hn g t e
      obtain ⟨U, m, h1, h3⟩ := tight_ones hn (a :: T) g t
      have hc : hf n ∉ a :: T := fun hm => by
        rcases List.mem_cons.1 hm with h | h
        · exact e h.symm
        · exact hno h
      have hf' : (a :: T).filter (fun p => decide (p ≠ hf n ∧ p ≠ iota n)) = U := by
        rw [h1, List.filter_append, List.filter_eq_self.2, List.filter_eq_nil_iff.2, List.append_nil]
        · intro x hx
          rw [List.eq_of_mem_replicate hx]; simp
        · intro x hx
          simp only [decide_eq_true_eq]
          refine ⟨fun hx2 => ?_, fun hx2 => h3 (hx2 ▸ hx)⟩
          have : x ∈ a :: T := by rw [h1]; simp [hx]
          rw [hx2] at this
          exact hc this
      rw [hf']
      rw [h1] at t
      exact fun G s => t _ (s.post _)
/-- Turned k times. -/
def tauK (n : Nat) (k : Int) (G : List (List Int)) : List (List Int) := if k % 2 = 0 then G else G.map (turnP n)
theorem good_tauK {G : List (List Int)} (g : Good n G) (k : Int) : Good n (tauK n k G) := by unfold tauK; split; exact g; exact good_turn g
theorem tauK_succ {G : List (List Int)} (g : Good n G) (k : Int) : tauK n (k + 1) G = (tauK n k G).map (turnP n) := by
  unfold tauK
  by_cases h : k % 2 = 0
  · rw [if_pos h, if_neg (by omega)]
  · rw [if_neg h, if_pos (by omega), map_turn_turn g]
theorem tauK_pred {G : List (List Int)} (g : Good n G) (k : Int) : tauK n (k - 1) G = (tauK n k G).map (turnP n) := by
  have h1 := tauK_succ g (k - 1)
  rw [show k - 1 + 1 = k by omega] at h1
  rw [h1, map_turn_turn (good_tauK g _)]
/-- One form behind another. -/
def prodS (n : Nat) (s t : St) : St := (s.1 + t.1, tauK n t.1 s.2 ++ t.2)
theorem prodS_mul {s : St} (g : Good n s.2) (t : St) (x : Int) : prodS n s (mulS n t x) = mulS n (prodS n s t) x := by
  unfold prodS mulS
  split
  · simp
  · simp only [List.map_append, tauK_pred g, List.append_assoc, Prod.mk.injEq, and_true]
    omega
theorem prodS_mulW {s : St} (g : Good n s.2) (w : List Int) : ∀ t : St, prodS n s (mulW n t w) = mulW n (prodS n s t) w := by
  induction w with
  | nil => exact fun _ => rfl
  | cons x w ih =>
    intro t
    rw [show mulW n t (x :: w) = mulW n (mulS n t x) w from rfl, ih, prodS_mul g]
    rfl
theorem prodS_eqv (hn : n ≤ 1000) {s t u : St} (g : Good n s.2) (h : Eqv n t u) : Eqv n (prodS n s t) (prodS n s u) := by
  induction h with
  | refl => exact .refl _
  | symm _ ih => exact .symm ih
  | trans _ _ ih1 ih2 => exact .trans ih1 ih2
  | step k g1 h => exact eqv_reach _ ((Reach.one h).pre _) ((good_tauK g k).app g1)
  | trail k g1 =>
    rename_i F
    unfold prodS
    rw [← List.append_assoc]
    exact .trail _ ((good_tauK g k).app g1)
  | half k g1 =>
    rename_i F
    unfold prodS
    have gt := good_tauK g k
    have s2 : Reach n (tauK n k s.2 ++ (hf n :: F)) (hf n :: ((tauK n k s.2).map (turnP n) ++ F)) := by
      have := (half_front hn (tauK n k s.2) gt).post F
      simpa using this
    refine .trans (eqv_reach _ s2 (gt.app (.cons (pn_hf hn) g1))) ?_
    rw [tauK_succ g]
    have := Eqv.half (n := n) (s.1 + k) ((good_turn gt).app g1)
    rwa [show s.1 + k + 1 = s.1 + (k + 1) by omega] at this
theorem mulW_start (n : Nat) (s : St) (w : List Int) (g : Good n s.2) : mulW n s w = prodS n s (mulW n (0, []) w) := by
  rw [prodS_mulW g]
  simp [prodS, tauK]

/-- A word and its inverse. -/
def invW (w : List Int) : List Int := (w.map fun x => -x).reverse
theorem invW_lt {w : List Int} (h : ∀ x ∈ w, Lt n x) : ∀ x ∈ invW w, Lt n x := fun x hx => by
  simp only [invW, List.mem_reverse, List.mem_map] at hx
  obtain ⟨y, hy, rfl⟩ := hx
  have := h y hy
  unfold Lt at *
  omega
theorem mulW_inv (hn : n ≤ 1000) (w : List Int) : ∀ {s : St}, (∀ x ∈ w, Lt n x) → Good n s.2 → Eqv n (mulW n (mulW n s w) (invW w)) s := by
  induction w with
  | nil => exact fun _ _ => .refl _
  | cons x w ih =>
    intro s hw g
    have hx := hw x (by simp)
    have hr : ∀ y ∈ w, Lt n y := fun y hy => hw y (by simp [hy])
    have g1 := mulS_good hn hx g
    have e : invW (x :: w) = invW w ++ [-x] := by simp [invW]
    rw [e, mulW_append, show mulW n s (x :: w) = mulW n (mulS n s x) w from rfl]
    have hnx : Lt n (-x) := by unfold Lt at *; omega
    exact .trans (eqv_mulW hn [-x] (fun y hy => by simp at hy; subst hy; exact hnx) (ih hr g1)) (cancel hn hx g)
/-- The normal form of the inverse. -/
theorem inv_form (hn : n ≤ 1000) (h2 : 2 ≤ n) {w : List Int} (hw : ∀ x ∈ w, Lt n x) {k : Int} {F : List (List Int)} (h : Cn n (mulW n (0, []) w) (k, F)) :
    ∃ G, G.length = F.length ∧ Cn n (mulW n (0, []) (invW w)) (-k - F.length, G) := by
  have gw := mulW_good hn w (0, []) hw (good_nil n)
  have hE := cn_eqv hn h2 h
  obtain ⟨_, T, r, t, e⟩ := h
  have gT := r.good gw
  obtain ⟨e1, e2⟩ := Prod.mk.inj e
  have gF : Good n F := fun x hx => by rw [e2] at hx; exact gT x (List.mem_filter.1 hx).1
  have nh : hf n ∉ F := fun hm => by rw [e2] at hm; have := (List.mem_filter.1 hm).2; simp at this
  have ni : iota n ∉ F := fun hm => by rw [e2] at hm; have := (List.mem_filter.1 hm).2; simp at this
  have tF : Tight n F := by rw [e2]; exact strip_is_tight hn T gT t
  obtain ⟨B, bl, bg, bt, bh, bi, be, _⟩ := inv_exists hn h2 F gF tF nh ni
  have gB := good_tauK bg k
  have tK : Tight n (tauK n k B) ∧ hf n ∉ tauK n k B ∧ iota n ∉ tauK n k B ∧ (tauK n k B).length = B.length := by
    unfold tauK
    split
    · exact ⟨bt, bh, bi, rfl⟩
    · exact ⟨tight_turn bg bt, turn_mem bg turn_hf bh, turn_mem bg turn_iota bi, by simp⟩
  refine ⟨tauK n k B, by rw [tK.2.2.2, bl], ?_⟩
  have hfin : Cn n (-k - F.length, tauK n k B) (-k - F.length, tauK n k B) := by
    refine ⟨gB, _, .refl _, tK.1, ?_⟩
    unfold strip
    rw [List.count_eq_zero.2 tK.2.1, List.filter_eq_self.2 fun x hx => by
      simp only [decide_eq_true_eq]
      exact ⟨fun e => tK.2.1 (e ▸ hx), fun e => tK.2.2.1 (e ▸ hx)⟩]
    simp
  refine (eqv_cn hn h2 ?_ _).2 hfin
  have h0 : Eqv n (mulW n (-k - F.length, tauK n k B) w) (0, []) := by
    rw [mulW_start n _ _ gB]
    refine .trans (prodS_eqv hn gB hE) ?_
    have : prodS n (-k - F.length, tauK n k B) (k, F) = (-(F.length : Int), B ++ F) := by
      unfold prodS
      have e3 : tauK n k (tauK n k B) = B := by
        unfold tauK
        split
        · rfl
        · exact map_turn_turn bg
      simp only [e3, Prod.mk.injEq, and_true]
      omega
    rw [this]; exact be
  exact .trans (eqv_mulW hn (invW w) (invW_lt hw) h0.symm) (mulW_inv hn w hw gB)

end
end Go.Proofs.Ytnkahkahcajahaa

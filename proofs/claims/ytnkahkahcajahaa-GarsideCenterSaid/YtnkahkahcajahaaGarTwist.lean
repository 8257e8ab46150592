/- Products of factors, the half twist, factors turned. No program. -/
import Derived.Test.YtnkahkahcajahaaGarStep
namespace Go.Proofs.Ytnkahkahcajahaa
open Go.RowKit Go.Sl

section
variable {n : Nat} {a b d f g : List Int} {i j : Nat}
theorem back_iota (hn : n ≤ 1000) {i : Nat} (hi : i < n) : nth (backL (iota n)) i = i := by
  have := back_at (pn_iota hn) hi
  rwa [nth_iota _ _ hi, Int.toNat_natCast] at this
theorem up_iota (hn : n ≤ 1000) (hi : i + 1 < n) : up (iota n) i := by
  unfold up; rw [back_iota hn (by omega), back_iota hn hi]; omega
theorem not_dn_iota (hi : i + 1 < n) : ¬ dn (iota n) i := by
  unfold dn; rw [nth_iota _ _ hi, nth_iota _ _ (by omega)]; omega
theorem inv_asc (l : List Int) : Asc l → inv l = 0 := by
  induction l with
  | nil => intro _; rfl
  | cons x t ih =>
    intro h
    have h' := List.pairwise_cons.1 h
    have : less t x = 0 := by
      unfold less
      rw [List.length_eq_zero_iff, List.filter_eq_nil_iff]
      intro y hy
      have := h'.1 y hy
      simp; omega
    rw [inv, this, ih h'.2]
theorem inv_iota (n : Nat) : inv (iota n) = 0 := inv_asc _ (asc_iota n)
/-- A single crossing. -/
def sgP (n i : Nat) : List Int := swapV (iota n) i
theorem pn_sg (hn : n ≤ 1000) (hi : i + 1 < n) : Pn n (sgP n i) := (pn_iota hn).swapV hi
theorem swapAt_sg (hi : i + 1 < n) : swapAt (sgP n i) i = iota n := by
  unfold sgP
  rw [swapV_iota hi, swapAt_swapAt _ _ (by rw [iota_length]; exact hi)]
theorem dn_sg (hi : i + 1 < n) : dn (sgP n i) i := by
  unfold dn sgP
  rw [nth_swapV _ _ _ (by rw [iota_length]; exact hi), nth_swapV _ _ _ (by rw [iota_length]; omega), nth_iota _ _ hi, nth_iota _ _ (by omega)]
  unfold swV; grind
theorem inv_sg (hn : n ≤ 1000) (hi : i + 1 < n) : inv (sgP n i) = 1 := by
  unfold sgP; rw [inv_up (pn_iota hn) hi (up_iota hn hi), inv_iota]

theorem thenL_swap (ha : Pn n a) (hb : Pn n b) (hi : i + 1 < n) : thenL (swapV a i) (swapAt b i) = thenL a b := by
  refine ext_nth (by simp [thenL_length, swapV_length]) fun q hq => ?_
  rw [thenL_length, swapV_length, ha.len] at hq
  rw [nth_thenL _ _ _ (by rw [swapV_length, ha.len]; exact hq), nth_thenL _ _ _ (by rw [ha.len]; exact hq), nth_swapV _ _ _ (by rw [ha.len]; exact hq), nsw hb hi]
  have hr := ha.range hq
  congr 1
  unfold swN swV; grind
theorem thenL_swapV (ha : Pn n a) (hd : Pn n d) : thenL a (swapV d j) = swapV (thenL a d) j := by
  refine ext_nth (by simp [thenL_length, swapV_length]) fun q hq => ?_
  rw [thenL_length, ha.len] at hq
  have hr := ha.range hq
  rw [nth_thenL _ _ _ (by rw [ha.len]; exact hq), nth_swapV _ _ _ (by rw [hd.len]; omega), nth_swapV _ _ _ (by rw [thenL_length, ha.len]; exact hq), nth_thenL _ _ _ (by rw [ha.len]; exact hq)]
theorem then_iota (ha : Pn n a) : thenL a (iota n) = a := by
  have := iota_thenL ha.perm.range
  rwa [ha.len] at this
theorem iota_then (ha : Pn n a) : thenL (iota n) a = a := by
  have := thenL_iota a
  rwa [ha.len] at this
theorem inv_sub (hn : n ≤ 1000) (ha : Pn n a) : ∀ d, Pn n d → inv (thenL a d) ≤ inv a + inv d := by
  refine permInd hn ?_ fun f j hf hj hu ih => ?_
  · rw [then_iota ha]; omega
  · rw [thenL_swapV ha hf, inv_up hf hj hu]
    have hp := ha.then hf
    rcases up_or hp hj with h | h
    · rw [inv_up hp hj h]; omega
    · have := inv_down hp hj h; omega
theorem step_iota {F G : List (List Int)} (h : Step n (F ++ [iota n]) G) : ∃ F', G = F' ++ [iota n] ∧ Step n F F' := by
  induction F generalizing G with
  | nil => cases h with
    | next _ h => cases h
  | cons x F ih =>
    cases F with
    | nil =>
      cases h with
      | here post hi hu hd => exact absurd hd (not_dn_iota hi)
      | next _ h => cases h with
        | next _ h => cases h
    | cons y F =>
      cases h with
      | here post hi hu hd => exact ⟨_ :: _ :: F, rfl, .here F hi hu hd⟩
      | next _ h =>
        obtain ⟨F', e, k⟩ := ih h
        exact ⟨x :: F', by rw [e]; rfl, .next x k⟩
theorem reach_iota {A G : List (List Int)} (h : Reach n A G) : ∀ F, A = F ++ [iota n] → ∃ F', G = F' ++ [iota n] ∧ Reach n F F' := by
  induction h with
  | refl A => exact fun F e => ⟨F, e, .refl F⟩
  | head h k ih =>
    intro F e
    subst e
    obtain ⟨F1, e1, h1⟩ := step_iota h
    obtain ⟨F2, e2, h2⟩ := ih F1 e1
    exact ⟨F2, e2, .head h1 h2⟩
theorem reach_strip {F T : List (List Int)} (h : Reach n (F ++ [iota n]) (T ++ [iota n])) : Reach n F T := by
  obtain ⟨F', e, k⟩ := reach_iota h F rfl
  rw [List.append_cancel_right e]; exact k
theorem tight_one (a : List Int) : Tight n [a] := fun G h => by
  cases h with
  | next _ h => cases h
theorem tight_nil : Tight n [] := fun G h => by cases h
theorem Tight.tl {T : List (List Int)} (h : Tight n (a :: T)) : Tight n T := fun G k => h _ (.next a k)
theorem Tight.pair {T : List (List Int)} (h : Tight n (a :: b :: T)) : ∀ i, i + 1 < n → dn b i → ¬ up a i := fun i hi hd hu => h _ (.here T hi hu hd)
theorem tight_cons {T : List (List Int)} (h : Tight n (b :: T)) (k : ∀ i, i + 1 < n → dn b i → ¬ up a i) : Tight n (a :: b :: T) := fun G s => by
  cases s with
  | here post hi hu hd => exact k _ hi hd hu
  | next _ s => exact h _ s
theorem tight_iota {T : List (List Int)} (h : Tight n T) : Tight n (T ++ [iota n]) := fun G s => by
  obtain ⟨F', _, k⟩ := step_iota s
  exact h _ k

/-- Two factors whose product is a factor. -/
theorem rp (hn : n ≤ 1000) (ha : Pn n a) : ∀ d, Pn n d → inv (thenL a d) = inv a + inv d → Reach n [a, d] [thenL a d, iota n] := by
  refine permInd hn (fun _ => by rw [then_iota ha]; exact .refl _) fun f j hf hj hu ih h => ?_
  rw [thenL_swapV ha hf] at h ⊢
  have hp := ha.then hf
  have hsub := inv_sub hn ha f hf
  rw [inv_up hf hj hu] at h
  have hup : up (thenL a f) j := by
    rcases up_or hp hj with h1 | h1
    · exact h1
    · have := inv_down hp hj h1; omega
  rw [inv_up hp hj hup] at h
  have hih := ih (by omega)
  have r1 : Reach n [a, f, sgP n j] [a, swapV f j, iota n] := by
    have := Step.next a (Step.here (n := n) (b := sgP n j) [] hj hu (dn_sg hj))
    rw [swapAt_sg hj] at this
    exact .one this
  have r2 : Reach n [a, f, sgP n j] [swapV (thenL a f) j, iota n, iota n] := by
    have s1 : Reach n [a, f, sgP n j] [thenL a f, iota n, sgP n j] := hih.post [sgP n j]
    have s2 : Step n [thenL a f, iota n, sgP n j] [thenL a f, sgP n j, iota n] := by
      have := Step.next (thenL a f) (Step.here (n := n) (b := sgP n j) [] hj (up_iota hn hj) (dn_sg hj))
      rw [swapAt_sg hj] at this
      exact this
    have s3 : Step n [thenL a f, sgP n j, iota n] [swapV (thenL a f) j, iota n, iota n] := by
      have := Step.here (n := n) (b := sgP n j) [iota n] hj hup (dn_sg hj)
      rw [swapAt_sg hj] at this
      exact this
    exact s1.trans (.head s2 (.one s3))
  have g : Good n [a, f, sgP n j] := .cons ha (.cons hf (.cons (pn_sg hn hj) (good_nil n)))
  have t : Tight n [swapV (thenL a f) j, iota n, iota n] := tight_iota (T := [_, _]) (tight_iota (T := [_]) (tight_one _))
  have := same_end g r1 r2 t
  exact reach_strip (F := [a, swapV f j]) (T := [swapV (thenL a f) j, iota n]) this

/-! The half twist. -/
def hf (n : Nat) : List Int := (iota n).reverse
theorem hf_length (n : Nat) : (hf n).length = n := by simp [hf, iota_length]
theorem nth_rev (l : List Int) {q : Nat} (h : q < l.length) : nth l.reverse q = nth l (l.length - 1 - q) := by
  rw [nth_lt (by simpa using h), List.getElem_reverse, nth_lt (by omega)]
theorem nth_hf {q : Nat} (h : q < n) : nth (hf n) q = (n : Int) - 1 - q := by
  unfold hf
  rw [nth_rev _ (by rw [iota_length]; exact h), iota_length, nth_iota _ _ (by omega)]; omega
theorem pn_hf (hn : n ≤ 1000) : Pn n (hf n) := ⟨⟨by rw [hf_length]; exact List.reverse_perm _, by rw [hf_length]; exact hn⟩, hf_length n⟩
theorem back_hf (hn : n ≤ 1000) {x : Nat} (h : x < n) : nth (backL (hf n)) x = (n : Int) - 1 - x := by
  have := back_at (pn_hf hn) (q := n - 1 - x) (by omega)
  rw [nth_hf (by omega)] at this
  rw [show ((n : Int) - 1 - ((n - 1 - x : Nat) : Int)).toNat = x by omega] at this
  rw [this]; omega
theorem not_up_hf (hn : n ≤ 1000) (hi : i + 1 < n) : ¬ up (hf n) i := by
  unfold up; rw [back_hf hn (by omega), back_hf hn hi]; omega
theorem dn_hf (hi : i + 1 < n) : dn (hf n) i := by
  unfold dn; rw [nth_hf hi, nth_hf (by omega)]; omega
theorem tight_hf (hn : n ≤ 1000) {T : List (List Int)} (h : Tight n T) : Tight n (hf n :: T) := by
  cases T with
  | nil => exact tight_one _
  | cons b T => exact tight_cons h fun i hi _ => not_up_hf hn hi
/-- Only the half twist takes no crossing. -/
theorem hf_of (hn : n ≤ 1000) (ha : Pn n a) (h : ∀ i, i + 1 < n → ¬ up a i) : a = hf n := by
  have h1 : ∀ i, i + 1 < n → dn (backL a) i := fun i hi => (up_or ha hi).resolve_left (h i hi)
  have h2 : (backL a).reverse = iota n := by
    have hp : Pn n (backL a).reverse := by
      have hb := ha.back
      exact ⟨⟨by rw [List.length_reverse]; exact (List.reverse_perm _).trans hb.perm.perm, by rw [List.length_reverse]; exact hb.perm.small⟩, by rw [List.length_reverse, hb.len]⟩
    have e : ∀ i, i + 1 < n → nth (backL a).reverse i < nth (backL a).reverse (i + 1) := fun i hi => by
      have hb := ha.back
      have := h1 (n - 2 - i) (by omega)
      unfold dn at this
      rw [nth_rev _ (by rw [hb.len]; omega), nth_rev _ (by rw [hb.len]; omega), hb.len]
      rw [show n - 1 - (i + 1) = n - 2 - i by omega, show n - 1 - i = n - 2 - i + 1 by omega]
      exact this
    have := iota_of hp.back (fun i hi => by unfold up; rw [back_back hp]; exact e i hi)
    have h3 := congrArg backL this
    rw [back_back hp] at h3
    rw [h3]
    refine ext_nth (by rw [backL_length]) fun q hq => ?_
    rw [backL_length, iota_length] at hq
    rw [back_iota hn hq, nth_iota _ _ hq]
  have h3 : backL a = hf n := by unfold hf; rw [← h2, List.reverse_reverse]
  have h4 := back_back ha
  rw [h3] at h4
  rw [← h4]
  refine ext_nth (by rw [backL_length]) fun q hq => ?_
  rw [backL_length, hf_length] at hq
  rw [back_hf hn hq, nth_hf hq]
theorem inv_hf_up (hn : n ≤ 1000) (hi : i + 1 < n) : inv (swapV (hf n) i) + 1 = inv (hf n) := inv_down (pn_hf hn) hi ((up_or (pn_hf hn) hi).resolve_left (not_up_hf hn hi))
/-- What is left to the half twist. -/
theorem compl (hn : n ≤ 1000) : ∀ f, Pn n f → ∃ g, Pn n g ∧ thenL f g = hf n ∧ inv f + inv g = inv (hf n) := by
  refine permInd hn ⟨hf n, pn_hf hn, iota_then (pn_hf hn), by rw [inv_iota]; omega⟩ fun f j hf' hj hu ih => ?_
  obtain ⟨g, hg, e, hi⟩ := ih
  have hat : ∀ q, q < n → nth g (nth f q).toNat = (n : Int) - 1 - q := fun q hq => by
    have := congrArg (fun l => nth l q) e
    rwa [nth_thenL _ _ _ (by rw [hf'.len]; exact hq), nth_hf hq] at this
  have hd : dn g j := by
    obtain ⟨p, hp, e1, e2⟩ := hit hf' (x := j) (by omega)
    obtain ⟨q, hq, e3, e4⟩ := hit hf' (x := j + 1) hj
    have h1 := hat p hp
    have h2 := hat q hq
    rw [e1, Int.toNat_natCast] at h1
    rw [e3, Int.toNat_natCast] at h2
    unfold up at hu
    rw [e2, e4] at hu
    unfold dn
    omega
  exact ⟨swapAt g j, hg.swapAt hj, by rw [thenL_swap hf' hg hj, e], by rw [inv_up hf' hj hu]; have := inv_dn hg hj hd; omega⟩

/-! Turned factors. -/
def turnP (n : Nat) (a : List Int) : List Int := a.reverse.map fun x => (n : Int) - 1 - x
theorem turn_length (a : List Int) : (turnP n a).length = a.length := by simp [turnP]
theorem nth_turn (ha : a.length = n) {q : Nat} (h : q < n) : nth (turnP n a) q = (n : Int) - 1 - nth a (n - 1 - q) := by
  unfold turnP
  rw [nth_map _ _ _ (by simpa [ha] using h), nth_rev _ (by rw [ha]; exact h), ha]
theorem turn_iota : turnP n (iota n) = iota n := by
  refine ext_nth (by rw [turn_length]) fun q hq => ?_
  rw [turn_length, iota_length] at hq
  rw [nth_turn (iota_length n) hq, nth_iota _ _ hq, nth_iota _ _ (by omega)]; omega
theorem pn_turn (ha : Pn n a) : Pn n (turnP n a) := by
  refine ⟨⟨?_, by rw [turn_length]; exact ha.perm.small⟩, by rw [turn_length, ha.len]⟩
  rw [turn_length, ha.len]
  have h1 : a.Perm (iota n) := by have := ha.perm.perm; rwa [ha.len] at this
  have h2 : (turnP n a).Perm (turnP n (iota n)) := ((List.reverse_perm a).trans (h1.trans (List.reverse_perm (iota n)).symm)).map _
  rw [turn_iota] at h2
  exact h2
theorem turn_turn (ha : Pn n a) : turnP n (turnP n a) = a := by
  refine ext_nth (by rw [turn_length, turn_length]) fun q hq => ?_
  rw [turn_length, turn_length, ha.len] at hq
  rw [nth_turn (by rw [turn_length, ha.len]) hq, nth_turn ha.len (by omega), show n - 1 - (n - 1 - q) = q by omega]; omega
theorem turn_hf : turnP n (hf n) = hf n := by
  refine ext_nth (by rw [turn_length]) fun q hq => ?_
  rw [turn_length, hf_length] at hq
  rw [nth_turn (hf_length n) hq, nth_hf hq, nth_hf (by omega)]; omega
theorem back_turn (ha : Pn n a) {x : Nat} (hx : x < n) : nth (backL (turnP n a)) x = (n : Int) - 1 - nth (backL a) (n - 1 - x) := by
  obtain ⟨q, hq, e1, e2⟩ := hit ha (x := n - 1 - x) (by omega)
  have h1 := back_at (pn_turn ha) (q := n - 1 - q) (by omega)
  rw [nth_turn ha.len (by omega), show n - 1 - (n - 1 - q) = q by omega, e1] at h1
  rw [show ((n : Int) - 1 - ((n - 1 - x : Nat) : Int)).toNat = x by omega] at h1
  rw [h1, e2]; omega
theorem up_turn (ha : Pn n a) (hi : i + 1 < n) : up (turnP n a) i ↔ up a (n - 2 - i) := by
  unfold up
  rw [back_turn ha (by omega), back_turn ha hi, show n - 1 - i = n - 2 - i + 1 by omega, show n - 1 - (i + 1) = n - 2 - i by omega]
  omega
theorem dn_turn (ha : Pn n a) (hi : i + 1 < n) : dn (turnP n a) i ↔ dn a (n - 2 - i) := by
  unfold dn
  rw [nth_turn ha.len hi, nth_turn ha.len (by omega), show n - 1 - i = n - 2 - i + 1 by omega, show n - 1 - (i + 1) = n - 2 - i by omega]
  omega
theorem turn_swapV (ha : Pn n a) (hi : i + 1 < n) : turnP n (swapV a i) = swapV (turnP n a) (n - 2 - i) := by
  refine ext_nth (by simp [turn_length, swapV_length]) fun q hq => ?_
  rw [turn_length, swapV_length, ha.len] at hq
  rw [nth_turn (by rw [swapV_length, ha.len]) hq, nth_swapV _ _ _ (by rw [ha.len]; omega), nth_swapV _ _ _ (by rw [turn_length, ha.len]; exact hq), nth_turn ha.len hq]
  unfold swV; grind
theorem turn_swapAt (ha : Pn n a) (hi : i + 1 < n) : turnP n (swapAt a i) = swapAt (turnP n a) (n - 2 - i) := by
  refine ext_nth (by simp [turn_length, swapAt_length]) fun q hq => ?_
  rw [turn_length, swapAt_length, ha.len] at hq
  rw [nth_turn (by rw [swapAt_length, ha.len]) hq, nsw ha hi, nsw (pn_turn ha) (by omega), nth_turn ha.len (swN_lt (by omega) hq)]
  congr 2
  unfold swN; grind
theorem inv_turn (hn : n ≤ 1000) : ∀ f, Pn n f → inv (turnP n f) = inv f := by
  refine permInd hn (by rw [turn_iota]) fun f j hf' hj hu ih => ?_
  rw [turn_swapV hf' hj, inv_up hf' hj hu, inv_up (pn_turn hf') (by omega) ((up_turn hf' (by omega)).2 (by rw [show n - 2 - (n - 2 - j) = j by omega]; exact hu)), ih]
theorem step_turn {F G : List (List Int)} (h : Step n F G) : Good n F → Step n (F.map (turnP n)) (G.map (turnP n)) := by
  induction h with
  | here post hi hu hd =>
    rename_i a b i
    intro g
    have e : n - 2 - (n - 2 - i) = i := by omega
    rw [List.map_cons, List.map_cons, List.map_cons, List.map_cons, turn_swapV g.hd hi, turn_swapAt g.tl.hd hi]
    exact .here _ (by omega) ((up_turn g.hd (by omega)).2 (by rw [e]; exact hu)) ((dn_turn g.tl.hd (by omega)).2 (by rw [e]; exact hd))
  | next x h ih => exact fun g => .next _ (ih g.tl)
theorem good_turn {F : List (List Int)} (h : Good n F) : Good n (F.map (turnP n)) := fun x hx => by
  obtain ⟨y, hy, rfl⟩ := List.mem_map.1 hx
  exact pn_turn (h y hy)
theorem map_turn_turn {F : List (List Int)} (h : Good n F) : (F.map (turnP n)).map (turnP n) = F := by
  rw [List.map_map]
  have : ∀ x ∈ F, (turnP n ∘ turnP n) x = x := fun x hx => turn_turn (h x hx)
  rw [List.map_congr_left this, List.map_id']
theorem compl_turn (hf' : Pn n f) (hg : Pn n g) (e : thenL f g = hf n) : thenL g (turnP n f) = hf n := by
  refine ext_nth (by rw [thenL_length, hg.len, hf_length]) fun p hp => ?_
  rw [thenL_length, hg.len] at hp
  obtain ⟨q, hq, e1, -⟩ := hit hf' hp
  have h1 := congrArg (fun l => nth l q) e
  rw [nth_thenL _ _ _ (by rw [hf'.len]; exact hq), nth_hf hq, e1, Int.toNat_natCast] at h1
  rw [nth_thenL _ _ _ (by rw [hg.len]; exact hp), h1, nth_hf hp, show ((n : Int) - 1 - (q : Int)).toNat = n - 1 - q by omega, nth_turn hf'.len (by omega), show n - 1 - (n - 1 - q) = q by omega, e1]
/-- The half twist passes a factor. -/
theorem half_pass (hn : n ≤ 1000) (hf' : Pn n f) : Reach n [f, hf n] [hf n, turnP n f] := by
  obtain ⟨g, hg, e, hi⟩ := compl hn f hf'
  have e2 := compl_turn hf' hg e
  have ht := pn_turn hf'
  have it := inv_turn hn f hf'
  have r1 : Reach n [f, g, turnP n f] [f, hf n, iota n] := by
    have := rp hn hg (turnP n f) ht (by rw [e2, it]; omega)
    rw [e2] at this
    exact this.cons f
  have r2 : Reach n [f, g, turnP n f] [hf n, turnP n f, iota n] := by
    have s1 := (rp hn hf' g hg (by rw [e]; omega)).post [turnP n f]
    rw [e] at s1
    have s2 := (rp hn (pn_iota hn) (turnP n f) ht (by rw [iota_then ht, inv_iota]; omega)).cons (hf n)
    rw [iota_then ht] at s2
    exact s1.trans s2
  have gd : Good n [f, g, turnP n f] := .cons hf' (.cons hg (.cons ht (good_nil n)))
  have t : Tight n [hf n, turnP n f, iota n] := tight_hf hn (tight_iota (T := [_]) (tight_one _))
  exact reach_strip (F := [f, hf n]) (T := [hf n, turnP n f]) (same_end gd r1 r2 t)
theorem half_front (hn : n ≤ 1000) (F : List (List Int)) : Good n F → Reach n (F ++ [hf n]) (hf n :: F.map (turnP n)) := by
  induction F with
  | nil => intro _; exact .refl _
  | cons x F ih =>
    intro g
    exact ((ih g.tl).cons x).trans ((half_pass hn g.hd).post (F.map (turnP n)))
end

end Go.Proofs.Ytnkahkahcajahaa

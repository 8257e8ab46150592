/- Arguments as data: what a slice of ints or an int that came in reads as. -/
import Derived.Test.YtplekfgadbjgdaaQTopRinging0
import Derived.Test.YtplekfgadbjgdaaQTopRinging1
import Derived.Test.YtplekfgadbjgdaaQTopRinging2
import Derived.ProofKit
import Derived.OpenShut
namespace Go.Proofs.Ytplekfgadbjgdaa
open Go.RowKit Go.Sl

def iota (n : Nat) : List Int := (List.range n).map Int.ofNat
theorem iota_length (n : Nat) : (iota n).length = n := by simp [iota]
theorem nth_iota (n k : Nat) (h : k < n) : nth (iota n) k = k := by rw [nth_lt (by rw [iota_length]; exact h)]; simp [iota]
theorem mem_iota {n : Nat} {x : Int} : x ∈ iota n ↔ 0 ≤ x ∧ x < n := by
  simp only [iota, List.mem_map, List.mem_range]
  constructor
  · rintro ⟨a, h, rfl⟩; simp; omega
  · rintro ⟨h1, h2⟩; exact ⟨x.toNat, by omega, by simp; omega⟩
theorem iota_nodup (n : Nat) : (iota n).Nodup := by
  unfold iota
  rw [List.nodup_iff_pairwise_ne] at *
  rw [List.pairwise_map]
  refine List.Pairwise.imp ?_ List.nodup_range
  intro a b h e
  exact h (Int.ofNat.inj e)
theorem ext_nth {xs ys : List Int} (hl : xs.length = ys.length) (h : ∀ k, k < xs.length → nth xs k = nth ys k) : xs = ys := by
  apply List.ext_getElem hl
  intro j h1 h2
  have := h j h1
  rwa [nth_lt h1, nth_lt h2] at this

def thenL (a b : List Int) : List Int := a.map fun x => nth b x.toNat
theorem thenL_length (a b : List Int) : (thenL a b).length = a.length := by simp [thenL]
theorem nth_thenL (a b : List Int) (k : Nat) (h : k < a.length) : nth (thenL a b) k = nth b (nth a k).toNat := by
  rw [nth_lt (by rw [thenL_length]; exact h)]; simp [thenL, nth_lt h]

/-- A permutation of small degree, as a list. -/
structure IsPerm (xs : List Int) : Prop where
  perm : xs.Perm (iota xs.length)
  small : xs.length ≤ 1000
theorem IsPerm.range {xs : List Int} (h : IsPerm xs) : ∀ x ∈ xs, 0 ≤ x ∧ x < xs.length := fun _ hx => mem_iota.1 (h.perm.mem_iff.1 hx)
theorem IsPerm.nodup {xs : List Int} (h : IsPerm xs) : xs.Nodup := h.perm.nodup_iff.2 (iota_nodup _)
theorem IsPerm.hit {xs : List Int} (h : IsPerm xs) {k : Nat} (hk : k < xs.length) : ∃ j, j < xs.length ∧ nth xs j = k := by
  have : (k : Int) ∈ xs := h.perm.mem_iff.2 (mem_iota.2 ⟨by omega, by omega⟩)
  obtain ⟨j, hj, he⟩ := List.getElem_of_mem this
  exact ⟨j, hj, by rw [nth_lt hj]; exact he⟩
theorem isPerm_iota {n : Nat} (h : n ≤ 1000) : IsPerm (iota n) := ⟨by rw [iota_length], by rw [iota_length]; exact h⟩

theorem thenL_iota (b : List Int) : thenL (iota b.length) b = b := by
  apply ext_nth (by rw [thenL_length, iota_length])
  intro k hk
  rw [thenL_length, iota_length] at hk
  rw [nth_thenL _ _ _ (by rw [iota_length]; exact hk), nth_iota _ _ hk]; simp
theorem iota_thenL {a : List Int} (h : ∀ x ∈ a, 0 ≤ x ∧ x < a.length) : thenL a (iota a.length) = a := by
  apply ext_nth (by rw [thenL_length])
  intro k hk
  rw [thenL_length] at hk
  have := h _ (nth_mem hk)
  rw [nth_thenL _ _ _ hk, nth_iota _ _ (by omega)]; omega
theorem thenL_assoc {a b c : List Int} (h : ∀ x ∈ a, 0 ≤ x ∧ x < b.length) : thenL (thenL a b) c = thenL a (thenL b c) := by
  apply ext_nth (by simp [thenL_length])
  intro k hk
  simp only [thenL_length] at hk
  have := h _ (nth_mem hk)
  rw [nth_thenL _ _ _ (by rw [thenL_length]; exact hk), nth_thenL _ _ _ hk, nth_thenL _ _ _ hk, nth_thenL _ _ _ (by omega)]
theorem IsPerm.then {a b : List Int} (ha : IsPerm a) (hb : IsPerm b) (hl : a.length = b.length) : IsPerm (thenL a b) := by
  refine ⟨?_, by rw [thenL_length]; exact ha.small⟩
  rw [thenL_length, hl]
  have h1 : (thenL a b).Perm (thenL (iota a.length) b) := ha.perm.map _
  rw [hl, thenL_iota] at h1
  exact h1.trans hb.perm

/-- The first k numbers of a permutation written at their places. -/
def backTo (xs : List Int) (k : Nat) : List Int := (List.range k).foldl (fun acc i => acc.set (nth xs i).toNat i) (List.replicate xs.length 0)
def backL (xs : List Int) : List Int := backTo xs xs.length
theorem backTo_zero (xs : List Int) : backTo xs 0 = List.replicate xs.length 0 := rfl
theorem backTo_succ (xs : List Int) (k : Nat) : backTo xs (k + 1) = (backTo xs k).set (nth xs k).toNat k := by
  simp [backTo, List.range_succ]
theorem backTo_length (xs : List Int) (k : Nat) : (backTo xs k).length = xs.length := by
  induction k with
  | zero => simp [backTo]
  | succ k ih => rw [backTo_succ]; simp [ih]
theorem backL_length (xs : List Int) : (backL xs).length = xs.length := backTo_length _ _
theorem nth_set_same {xs : List Int} {k : Nat} (x : Int) (h : k < xs.length) : nth (xs.set k x) k = x := by
  rw [nth_lt (by simpa using h)]; simp
theorem nth_set_other {xs : List Int} {k j : Nat} (x : Int) (h : k ≠ j) : nth (xs.set k x) j = nth xs j := by
  simp [nth, List.getElem?_set_ne h]
theorem IsPerm.inj {xs : List Int} (h : IsPerm xs) {i j : Nat} (hi : i < xs.length) (hj : j < xs.length) (e : nth xs i = nth xs j) : i = j := by
  rw [nth_lt hi, nth_lt hj] at e
  exact (List.getElem_inj h.nodup).1 e
theorem backTo_hit {xs : List Int} (h : IsPerm xs) (k : Nat) (hk : k ≤ xs.length) : ∀ j, j < k → nth (backTo xs k) (nth xs j).toNat = j := by
  induction k with
  | zero => intro j hj; omega
  | succ k ih =>
    intro j hj
    have hrk := h.range _ (nth_mem (xs := xs) (k := k) (by omega))
    rw [backTo_succ]
    rcases Nat.lt_or_ge j k with h1 | h1
    · have hrj := h.range _ (nth_mem (xs := xs) (k := j) (by omega))
      rw [nth_set_other _ (fun e => by
        have := h.inj (i := k) (j := j) (by omega) (by omega) (by omega)
        omega)]
      exact ih (by omega) j h1
    · have e : j = k := by omega
      subst e
      rw [nth_set_same _ (by rw [backTo_length]; omega)]
theorem then_back {xs : List Int} (h : IsPerm xs) : thenL xs (backL xs) = iota xs.length := by
  apply ext_nth (by rw [thenL_length, iota_length])
  intro k hk
  rw [thenL_length] at hk
  rw [nth_thenL _ _ _ hk, nth_iota _ _ hk]
  exact backTo_hit h _ (Nat.le_refl _) k hk
theorem back_then {xs : List Int} (h : IsPerm xs) : thenL (backL xs) xs = iota xs.length := by
  apply ext_nth (by rw [thenL_length, iota_length, backL_length])
  intro k hk
  rw [thenL_length, backL_length] at hk
  rw [nth_thenL _ _ _ (by rw [backL_length]; exact hk), nth_iota _ _ hk]
  obtain ⟨j, hj, he⟩ := h.hit hk
  have := backTo_hit h _ (Nat.le_refl _) j hj
  rw [he] at this
  simp only [Int.toNat_natCast] at this
  unfold backL
  rw [this, Int.toNat_natCast, he]
theorem IsPerm.back {xs : List Int} (h : IsPerm xs) : IsPerm (backL xs) := by
  refine ⟨?_, by rw [backL_length]; exact h.small⟩
  have h1 : (thenL xs (backL xs)).Perm (thenL (iota xs.length) (backL xs)) := h.perm.map _
  rw [then_back h] at h1
  have h2 := thenL_iota (backL xs)
  rw [backL_length] at h2 ⊢
  rw [h2] at h1
  exact h1.symm

/-! ### The maker of permutations -/
theorem erase_perm (l : List Int) (i : Nat) (h : i < l.length) : (l[i] :: l.eraseIdx i).Perm l := by
  rw [List.eraseIdx_eq_take_drop_succ]
  have e : l = l.take i ++ l[i] :: l.drop (i + 1) := by rw [← List.drop_eq_getElem_cons h, List.take_append_drop]
  conv => rhs; rw [e]
  exact List.perm_middle.symm
end Go.Proofs.Ytplekfgadbjgdaa

namespace Go.Proofs.Ytplekfgadbjgdaa
open Go.RowKit Go.Sl

/-- A permutation of degree n. -/
def Pm (n : Nat) (p : List Int) : Prop := IsPerm p ∧ p.length = n
section
variable {n : Nat} {a b c p q u : List Int}
theorem Pm.small (h : Pm n p) : n ≤ 1000 := by rw [← h.2]; exact h.1.small
theorem Pm.rng (h : Pm n p) {k : Nat} (hk : k < n) : 0 ≤ nth p k ∧ nth p k < n := by
  have := h.1.range _ (nth_mem (show k < p.length by rw [h.2]; exact hk))
  rwa [h.2] at this
theorem pm_one (h : n ≤ 1000) : Pm n (iota n) := ⟨isPerm_iota h, iota_length n⟩
theorem Pm.mul (ha : Pm n a) (hb : Pm n b) : Pm n (thenL a b) := ⟨ha.1.then hb.1 (by rw [ha.2, hb.2]), by rw [thenL_length, ha.2]⟩
theorem Pm.back (ha : Pm n a) : Pm n (backL a) := ⟨ha.1.back, by rw [backL_length, ha.2]⟩
theorem Pm.at (ha : Pm n a) {k : Nat} (hk : k < n) : nth (thenL a b) k = nth b (nth a k).toNat := nth_thenL _ _ _ (by rw [ha.2]; exact hk)
theorem pm_assoc (ha : Pm n a) (hb : Pm n b) : thenL (thenL a b) c = thenL a (thenL b c) := thenL_assoc fun x hx => by
  have := ha.1.range x hx
  rw [ha.2] at this; rwa [hb.2]
theorem pm_onemul (ha : Pm n a) : thenL (iota n) a = a := by rw [← ha.2]; exact thenL_iota a
theorem pm_mulone (ha : Pm n a) : thenL a (iota n) = a := by
  have := iota_thenL ha.1.range
  rwa [ha.2] at this
theorem pm_mulback (ha : Pm n a) : thenL a (backL a) = iota n := by rw [then_back ha.1, ha.2]
theorem pm_backmul (ha : Pm n a) : thenL (backL a) a = iota n := by rw [back_then ha.1, ha.2]
theorem pm_cancel (ha : Pm n a) (hb : Pm n b) (hc : Pm n c) (h : thenL a c = thenL b c) : a = b := by
  have h1 := congrArg (fun x => thenL x (backL c)) h
  rwa [pm_assoc ha hc, pm_assoc hb hc, pm_mulback hc, pm_mulone ha, pm_mulone hb] at h1
theorem pm_tomul (ha : Pm n a) (hb : Pm n b) : thenL (thenL a (backL b)) b = a := by
  rw [pm_assoc ha hb.back, pm_backmul hb, pm_mulone ha]
theorem pm_back2 (ha : Pm n a) (hb : Pm n b) : backL (thenL a b) = thenL (backL b) (backL a) := by
  refine pm_cancel (ha.mul hb).back (hb.back.mul ha.back) (ha.mul hb) ?_
  rw [pm_backmul (ha.mul hb), pm_assoc hb.back ha.back, ← pm_assoc ha.back ha, pm_backmul ha, pm_onemul hb, pm_backmul hb]
theorem pm_backback (ha : Pm n a) : backL (backL a) = a := by
  refine pm_cancel ha.back.back ha ha.back ?_
  rw [pm_backmul ha.back, pm_mulback ha]
theorem pm_ext (ha : Pm n a) (hb : Pm n b) (h : ∀ k, k < n → nth a k = nth b k) : a = b := ext_nth (by rw [ha.2, hb.2]) fun k hk => h k (by rwa [ha.2] at hk)
theorem pm_inj (ha : Pm n a) {i j : Nat} (hi : i < n) (hj : j < n) (e : nth a i = nth a j) : i = j := ha.1.inj (by rw [ha.2]; exact hi) (by rw [ha.2]; exact hj) e
/-- The place stays. -/
def Fixes (p : List Int) (x : Nat) : Prop := nth p x = (x : Int)
theorem fix_one {x : Nat} (h : x < n) : Fixes (iota n) x := nth_iota n x h
theorem Fixes.mul (ha : Pm n a) {x : Nat} (hx : x < n) (h1 : Fixes a x) (h2 : Fixes b x) : Fixes (thenL a b) x := by
  unfold Fixes at *
  rw [ha.at hx, h1]; exact h2
theorem Fixes.back (ha : Pm n a) {x : Nat} (hx : x < n) (h : Fixes a x) : Fixes (backL a) x := by
  unfold Fixes at *
  have h1 := congrArg (fun l => nth l x) (pm_mulback ha)
  rw [ha.at hx, h, nth_iota _ _ hx] at h1
  simpa using h1
end

/-- What generators make. -/
inductive Gen (n : Nat) (S : List (List Int)) : List Int → Prop
  | one : Gen n S (iota n)
  | mul {p g : List Int} : Gen n S p → g ∈ S → Gen n S (thenL p g)
  | inv {p g : List Int} : Gen n S p → g ∈ S → Gen n S (thenL p (backL g))
section
variable {n : Nat} {S T : List (List Int)} {p q : List Int}
theorem Gen.pm (hn : n ≤ 1000) (hS : ∀ g ∈ S, Pm n g) (h : Gen n S p) : Pm n p := by
  induction h with
  | one => exact pm_one hn
  | mul _ hg ih => exact ih.mul (hS _ hg)
  | inv _ hg ih => exact ih.mul (hS _ hg).back
theorem Gen.prod (hn : n ≤ 1000) (hS : ∀ g ∈ S, Pm n g) (hp : Gen n S p) (h : Gen n S q) : Gen n S (thenL p q) := by
  induction h with
  | one => rw [pm_mulone (hp.pm hn hS)]; exact hp
  | mul h2 hg ih => rw [← pm_assoc (hp.pm hn hS) (h2.pm hn hS)]; exact ih.mul hg
  | inv h2 hg ih => rw [← pm_assoc (hp.pm hn hS) (h2.pm hn hS)]; exact ih.inv hg
theorem Gen.of (hS : ∀ g ∈ S, Pm n g) {g : List Int} (h : g ∈ S) : Gen n S g := by
  have := Gen.mul (n := n) (S := S) .one h
  rwa [pm_onemul (hS g h)] at this
theorem Gen.ofBack (hS : ∀ g ∈ S, Pm n g) {g : List Int} (h : g ∈ S) : Gen n S (backL g) := by
  have := Gen.inv (n := n) (S := S) .one h
  rwa [pm_onemul (hS g h).back] at this
theorem Gen.back (hn : n ≤ 1000) (hS : ∀ g ∈ S, Pm n g) (h : Gen n S p) : Gen n S (backL p) := by
  induction h with
  | one =>
    have : backL (iota n) = iota n := by
      have h1 := pm_mulback (pm_one hn)
      rwa [pm_onemul (pm_one hn).back] at h1
    rw [this]; exact .one
  | mul h2 hg ih => rw [pm_back2 (h2.pm hn hS) (hS _ hg)]; exact Gen.prod hn hS (Gen.ofBack hS hg) ih
  | inv h2 hg ih => rw [pm_back2 (h2.pm hn hS) (hS _ hg).back, pm_backback (hS _ hg)]; exact Gen.prod hn hS (Gen.of hS hg) ih
theorem Gen.sub (hn : n ≤ 1000) (hT : ∀ g ∈ T, Pm n g) (hST : ∀ g ∈ S, Gen n T g) (h : Gen n S p) : Gen n T p := by
  induction h with
  | one => exact .one
  | mul _ hg ih => exact Gen.prod hn hT ih (hST _ hg)
  | inv _ hg ih => exact Gen.prod hn hT ih ((hST _ hg).back hn hT)
theorem Gen.nil (h : Gen n [] p) : p = iota n := by
  cases h with
  | one => rfl
  | mul _ hg => cases hg
  | inv _ hg => cases hg
theorem Gen.fix (hn : n ≤ 1000) (hS : ∀ g ∈ S, Pm n g) {x : Nat} (hx : x < n) (hf : ∀ g ∈ S, Fixes g x) (h : Gen n S p) : Fixes p x := by
  induction h with
  | one => exact fix_one hx
  | mul h2 hg ih => exact Fixes.mul (h2.pm hn hS) hx ih (hf _ hg)
  | inv h2 hg ih => exact Fixes.mul (h2.pm hn hS) hx ih (Fixes.back (hS _ hg) hx (hf _ hg))
end

theorem pigP : ∀ (X J : List Nat), X.Nodup → (∀ x ∈ X, x ∈ J) → J.length = X.length → J.Perm X := by
  intro X
  induction X with
  | nil => intro J _ _ hl; rw [List.length_eq_zero_iff.1 hl]
  | cons x X ih =>
    intro J hn hs hl
    have hx := hs x (by simp)
    have h1 := List.perm_cons_erase hx
    refine h1.trans (List.Perm.cons x (ih (J.erase x) (List.nodup_cons.1 hn).2 (fun y hy => ?_) (by rw [List.length_erase_of_mem hx, hl]; simp)))
    have hne : y ≠ x := fun e => (List.nodup_cons.1 hn).1 (e ▸ hy)
    exact (List.mem_erase_of_ne hne).2 (hs y (List.mem_cons_of_mem _ hy))

/-- A level of the chain: generators, the elements that were reached, the points in the order in which they were found. -/
structure Lv where
  gs : List (List Int)
  rc : Nat → Option (List Int)
  od : List Nat
structure LvG (n j : Nat) (L : Lv) : Prop where
  gpm : ∀ g ∈ L.gs, Pm n g
  gfix : ∀ g ∈ L.gs, ∀ x, x < j → Fixes g x
  base : L.rc j = some (iota n)
  rcs : ∀ x u, L.rc x = some u → x < n ∧ nth u j = (x : Int) ∧ Gen n L.gs u
  odm : ∀ x, x ∈ L.od ↔ L.rc x ≠ none
  odn : L.od.Nodup
/-- All products of a level lead on to the next one. -/
def Done (n j : Nat) (L : Lv) (T : List (List Int)) : Prop := ∀ x u g, L.rc x = some u → g ∈ L.gs → ∃ w, L.rc (nth (thenL u g) j).toNat = some w ∧ Gen n T (thenL (thenL u g) (backL w))
section
variable {n j : Nat} {L : Lv} {T : List (List Int)} {p : List Int}
theorem LvG.pm (h : LvG n j L) (hn : n ≤ 1000) {x : Nat} {u : List Int} (hu : L.rc x = some u) : Pm n u := (h.rcs x u hu).2.2.pm hn h.gpm
/-- Where a generator leads the points that were reached: all of them are led to. -/
theorem done_onto (h : LvG n j L) (hn : n ≤ 1000) (hj : j < n) (hd : Done n j L T) {g : List Int} (hg : g ∈ L.gs) {x : Nat} (hx : x ∈ L.od) : ∃ y, y ∈ L.od ∧ nth g y = (x : Int) := by
  have hG := h.gpm g hg
  have hin : ∀ y ∈ L.od, y < n ∧ (nth g y).toNat ∈ L.od := fun y hy => by
    obtain ⟨u, hu⟩ := Option.ne_none_iff_exists'.1 ((h.odm y).1 hy)
    obtain ⟨h1, h2, h3⟩ := h.rcs y u hu
    obtain ⟨w, hw, -⟩ := hd y u g hu hg
    have hU := h.pm hn hu
    rw [hU.at hj, h2] at hw
    refine ⟨h1, (h.odm _).2 ?_⟩
    simp only [Int.toNat_natCast] at hw
    rw [hw]; simp
  have hnd : (L.od.map fun y => (nth g y).toNat).Nodup := by
    refine List.pairwise_map.2 (List.pairwise_iff_forall_sublist.2 fun {a b} hs => ?_)
    intro e
    have ha := (hin a (hs.subset (by simp))).1
    have hb := (hin b (hs.subset (by simp))).1
    have r1 := hG.rng ha
    have r2 := hG.rng hb
    have := pm_inj hG ha hb (by omega)
    have hne : a ≠ b := (List.pairwise_iff_forall_sublist.1 h.odn) hs
    exact hne this
  have hp := pigP (L.od.map fun y => (nth g y).toNat) L.od hnd (fun z hz => by
    obtain ⟨y, hy, rfl⟩ := List.mem_map.1 hz
    exact (hin y hy).2) (by simp)
  obtain ⟨y, hy, e⟩ := List.mem_map.1 (hp.mem_iff.1 hx)
  refine ⟨y, hy, ?_⟩
  have := hG.rng (hin y hy).1
  omega
/-- SCHREIER: what the generators of a level make is what the next level makes, times the elements that were reached. -/
theorem schreier (h : LvG n j L) (hn : n ≤ 1000) (hj : j < n) (hT : ∀ t ∈ T, Pm n t) (_hTf : ∀ t ∈ T, Fixes t j) (hd : Done n j L T) (hp : Gen n L.gs p) : ∃ w, L.rc (nth p j).toNat = some w ∧ Gen n T (thenL p (backL w)) := by
  have hone := pm_one hn
  induction hp with
  | one =>
    refine ⟨iota n, ?_, ?_⟩
    · rw [nth_iota n j hj]; exact h.base
    · rw [pm_mulback hone]; exact .one
  | @mul p g hp hg ih =>
    obtain ⟨w, hw, hH⟩ := ih
    have hP := hp.pm hn h.gpm
    have hW := h.pm hn hw
    have hG := h.gpm g hg
    obtain ⟨w', hw', hH'⟩ := hd _ w g hw hg
    have hW' := h.pm hn hw'
    have e1 : nth (thenL p g) j = nth (thenL w g) j := by
      rw [hP.at hj, hW.at hj]
      have := (h.rcs _ w hw).2.1
      rw [this, Int.toNat_natCast]
    refine ⟨w', by rw [e1]; exact hw', ?_⟩
    have e2 : thenL (thenL p g) (backL w') = thenL (thenL p (backL w)) (thenL (thenL w g) (backL w')) := by
      rw [← pm_assoc (hP.mul hW.back) (hW.mul hG), ← pm_assoc (hP.mul hW.back) hW, pm_tomul hP hW]
    rw [e2]
    exact Gen.prod hn hT hH hH'
  | @inv p g hp hg ih =>
    obtain ⟨w, hw, hH⟩ := ih
    have hP := hp.pm hn h.gpm
    have hW := h.pm hn hw
    have hG := h.gpm g hg
    have hx : (nth p j).toNat ∈ L.od := (h.odm _).2 (by rw [hw]; simp)
    obtain ⟨y, hy, hgy⟩ := done_onto h hn hj hd hg hx
    obtain ⟨v, hv⟩ := Option.ne_none_iff_exists'.1 ((h.odm y).1 hy)
    have hV := h.pm hn hv
    obtain ⟨w2, hw2, hH2⟩ := hd y v g hv hg
    have hyn := (h.rcs y v hv).1
    have hvj := (h.rcs y v hv).2.1
    have e0 : nth (thenL v g) j = ((nth p j).toNat : Int) := by rw [hV.at hj, hvj]; simpa using hgy
    rw [e0, Int.toNat_natCast, hw] at hw2
    obtain rfl := Option.some.inj hw2
    have hWj := (h.rcs _ w hw).2.1
    have e1 : nth (thenL p (backL g)) j = (y : Int) := by
      rw [hP.at hj]
      have h1 := congrArg (fun l => nth l y) (pm_mulback hG)
      rw [hG.at hyn, hgy, Int.toNat_natCast] at h1
      rw [h1]; exact nth_iota n y hyn
    refine ⟨v, by rw [e1, Int.toNat_natCast]; exact hv, ?_⟩
    -- p g^-1 v^-1 = (p w^-1) (v g w^-1)^-1
    have e2 : thenL (thenL p (backL g)) (backL v) = thenL (thenL p (backL w)) (backL (thenL (thenL v g) (backL w))) := by
      rw [pm_back2 (hV.mul hG) hW.back, pm_backback hW, pm_back2 hV hG, ← pm_assoc (hP.mul hW.back) hW, pm_tomul hP hW, ← pm_assoc hP hG.back]
    rw [e2]
    exact Gen.prod hn hT hH (hH2.back hn hT)
end

/-! ### How many there are -/
def HasCard (P : List Int → Prop) (k : Nat) : Prop := ∃ l : List (List Int), l.Nodup ∧ l.length = k ∧ ∀ p, p ∈ l ↔ P p
theorem HasCard.uniq {P : List Int → Prop} {a b : Nat} (ha : HasCard P a) (hb : HasCard P b) : a = b := by
  obtain ⟨l, n1, e1, h1⟩ := ha
  obtain ⟨m, n2, e2, h2⟩ := hb
  have := (List.perm_ext_iff_of_nodup n1 n2).2 fun p => by rw [h1, h2]
  rw [← e1, ← e2]; exact this.length_eq
theorem HasCard.congr {P Q : List Int → Prop} {a : Nat} (ha : HasCard P a) (h : ∀ p, P p ↔ Q p) : HasCard Q a := by
  obtain ⟨l, n1, e1, h1⟩ := ha
  exact ⟨l, n1, e1, fun p => by rw [h1, h]⟩
theorem card_nil (n : Nat) : HasCard (Gen n []) 1 := ⟨[iota n], by simp, rfl, fun p => by
  rw [List.mem_singleton]
  exact ⟨fun e => by rw [e]; exact .one, Gen.nil⟩⟩
theorem nodup_flat {α β : Type} {l : List α} {f : α → List β} (hl : l.Nodup) (hf : ∀ x ∈ l, (f x).Nodup) (hd : ∀ x ∈ l, ∀ y ∈ l, x ≠ y → ∀ b, b ∈ f x → b ∈ f y → False) : (l.flatMap f).Nodup := by
  induction l with
  | nil => simp
  | cons x l ih =>
    rw [List.flatMap_cons]
    refine List.nodup_append.2 ⟨hf x (by simp), ih (List.nodup_cons.1 hl).2 (fun y hy => hf y (by simp [hy])) (fun y hy z hz => hd y (by simp [hy]) z (by simp [hz])), fun b hb c hc e => ?_⟩
    subst e
    obtain ⟨y, hy, hby⟩ := List.mem_flatMap.1 hc
    exact hd x (by simp) y (by simp [hy]) (fun e => (List.nodup_cons.1 hl).1 (e ▸ hy)) b hb hby
theorem length_flat {α β : Type} {l : List α} {f : α → List β} {k : Nat} (h : ∀ x ∈ l, (f x).length = k) : (l.flatMap f).length = l.length * k := by
  induction l with
  | nil => simp
  | cons x l ih => rw [List.flatMap_cons, List.length_append, h x (by simp), ih fun y hy => h y (by simp [hy]), List.length_cons, Nat.succ_mul]; omega
section
variable {n j : Nat} {L : Lv} {T : List (List Int)}
theorem card_step (h : LvG n j L) (hn : n ≤ 1000) (hj : j < n) (hT : ∀ t ∈ T, Pm n t) (hTf : ∀ t ∈ T, Fixes t j) (hd : Done n j L T) (hsub : ∀ t ∈ T, Gen n L.gs t) {k : Nat} (hc : HasCard (Gen n T) k) : HasCard (Gen n L.gs) (L.od.length * k) := by
  obtain ⟨l, n1, e1, h1⟩ := hc
  have hex : ∀ x ∈ L.od, ∃ u, L.rc x = some u := fun x hx => Option.ne_none_iff_exists'.1 ((h.odm x).1 hx)
  have hlp : ∀ t ∈ l, Pm n t ∧ Fixes t j := fun t ht => ⟨((h1 t).1 ht).pm hn hT, ((h1 t).1 ht).fix hn hT hj hTf⟩
  refine ⟨L.od.flatMap fun x => l.map fun t => thenL t ((L.rc x).getD []), nodup_flat h.odn (fun x hx => ?_) (fun x hx y hy hxy b hb hb2 => ?_), ?_, fun p => ?_⟩
  · obtain ⟨u, hu⟩ := hex x hx
    refine List.pairwise_map.2 (n1.imp_of_mem fun {a b} ha hb hne e => hne ?_)
    rw [hu] at e
    exact pm_cancel (hlp a ha).1 (hlp b hb).1 (h.pm hn hu) e
  · obtain ⟨u, hu⟩ := hex x hx
    obtain ⟨v, hv⟩ := hex y hy
    rw [hu] at hb
    rw [hv] at hb2
    obtain ⟨s, hs, rfl⟩ := List.mem_map.1 hb
    obtain ⟨t, ht, e⟩ := List.mem_map.1 hb2
    have e2 := congrArg (fun q => nth q j) e
    simp only [Option.getD_some] at e2
    rw [(hlp t ht).1.at hj, (hlp s hs).1.at hj, (hlp t ht).2, (hlp s hs).2, Int.toNat_natCast, (h.rcs x u hu).2.1, (h.rcs y v hv).2.1] at e2
    omega
  · rw [length_flat (k := k)]
    intro x _
    rw [List.length_map, e1]
  · rw [List.mem_flatMap]
    constructor
    · rintro ⟨x, hx, hp⟩
      obtain ⟨u, hu⟩ := hex x hx
      rw [hu] at hp
      obtain ⟨t, ht, rfl⟩ := List.mem_map.1 hp
      exact Gen.prod hn h.gpm (((h1 t).1 ht).sub hn h.gpm hsub) (h.rcs x u hu).2.2
    · intro hp
      obtain ⟨w, hw, hH⟩ := schreier h hn hj hT hTf hd hp
      refine ⟨_, (h.odm _).2 (by rw [hw]; simp), List.mem_map.2 ⟨thenL p (backL w), (h1 _).2 hH, ?_⟩⟩
      rw [hw]
      exact pm_tomul (hp.pm hn h.gpm) (h.pm hn hw)
end
end Go.Proofs.Ytplekfgadbjgdaa

namespace Go.Proofs.Ytplekfgadbjgdaa
open Go.RowKit Go.Sl

/-- The generators of the next level; behind the last one there are none. -/
def nextGs (n : Nat) (C : Nat → Lv) (j : Nat) : List (List Int) := if j + 1 < n then (C (j + 1)).gs else []
/-- The levels from i on; all products of the levels from d on lead on. -/
structure Half (n i d : Nat) (C : Nat → Lv) : Prop where
  lv : ∀ j, i ≤ j → j < n → LvG n j (C j)
  nest : ∀ j, i ≤ j → j + 1 < n → ∀ g ∈ (C (j + 1)).gs, Gen n (C j).gs g
  done : ∀ j, d ≤ j → j < n → Done n j (C j) (nextGs n C j)
/-- How much the levels from j on may still grow. -/
def potT (n : Nat) (C : Nat → Lv) : Nat → Nat → Nat
  | 0, _ => 0
  | f + 1, j => (n - (C j).od.length) + potT n C f (j + 1)
def potC (n : Nat) (C : Nat → Lv) (j : Nat) : Nat := potT n C (n - j) j
/-- What a call on the levels from i on leaves. -/
structure Went (n i : Nat) (C D : Nat → Lv) : Prop where
  low : ∀ j, j < i → D j = C j
  mono : ∀ j, ∀ g ∈ (C j).gs, g ∈ (D j).gs
  pot : ∀ j, i ≤ j → potC n D j ≤ potC n C j
  sum : ∀ j, i ≤ j → (D j).gs.length + potC n D j ≤ (C j).gs.length + potC n C j
section
variable {n i d : Nat} {C D E : Nat → Lv}
theorem pot_step {j : Nat} (h : j < n) : potC n C j = (n - (C j).od.length) + potC n C (j + 1) := by
  unfold potC
  rw [show n - j = (n - (j + 1)) + 1 by omega, potT]
theorem potT_congr : ∀ (f j : Nat), (∀ k, j ≤ k → k < j + f → (D k).od = (C k).od) → potT n D f j = potT n C f j
  | 0, _, _ => rfl
  | f + 1, j, h => by rw [potT, potT, h j (Nat.le_refl _) (by omega), potT_congr f (j + 1) fun k h1 h2 => h k (by omega) (by omega)]
theorem pot_congr {j : Nat} (h : ∀ k, j ≤ k → (D k).od = (C k).od) : potC n D j = potC n C j := potT_congr _ _ fun k h1 _ => h k h1
theorem Went.refl (n i : Nat) (C : Nat → Lv) : Went n i C C := ⟨fun _ _ => rfl, fun _ _ h => h, fun _ _ => Nat.le_refl _, fun _ _ => Nat.le_refl _⟩
theorem Went.trans (h : Went n i C D) (k : Went n i D E) : Went n i C E :=
  ⟨fun j hj => (k.low j hj).trans (h.low j hj), fun j g hg => k.mono j g (h.mono j g hg), fun j hj => Nat.le_trans (k.pot j hj) (h.pot j hj), fun j hj => Nat.le_trans (k.sum j hj) (h.sum j hj)⟩
/-- A call on the levels behind i. -/
theorem Went.up (h : Went n (i + 1) C D) (hi : i < n) : Went n i C D := by
  have e : D i = C i := h.low i (Nat.lt_succ_self i)
  have hp : potC n D i ≤ potC n C i := by rw [pot_step hi, pot_step hi, e]; have := h.pot (i + 1) (Nat.le_refl _); omega
  refine ⟨fun j hj => h.low j (by omega), h.mono, fun j hj => ?_, fun j hj => ?_⟩
  · rcases Nat.eq_or_lt_of_le hj with rfl | h2
    · exact hp
    · exact h.pot j h2
  · rcases Nat.eq_or_lt_of_le hj with rfl | h2
    · rw [e]; omega
    · exact h.sum j h2
theorem Half.gpm (h : Half n i d C) {j : Nat} (h1 : i ≤ j) (h2 : j < n) : ∀ g ∈ (C j).gs, Pm n g := (h.lv j h1 h2).gpm
theorem Half.nextPm (h : Half n i d C) {j : Nat} (h1 : i ≤ j) (_h2 : j < n) : ∀ g ∈ nextGs n C j, Pm n g := by
  unfold nextGs
  split
  · rename_i h3; exact h.gpm (by omega) h3
  · intro g hg; cases hg
theorem Half.nextFix (h : Half n i d C) {j : Nat} (h1 : i ≤ j) (_h2 : j < n) : ∀ g ∈ nextGs n C j, Fixes g j := by
  unfold nextGs
  split
  · rename_i h3; exact fun g hg => (h.lv (j + 1) (by omega) h3).gfix g hg j (Nat.lt_succ_self j)
  · intro g hg; cases hg
theorem Half.nextIn (h : Half n i d C) {j : Nat} (h1 : i ≤ j) (_h2 : j < n) : ∀ g ∈ nextGs n C j, Gen n (C j).gs g := by
  unfold nextGs
  split
  · rename_i h3; exact h.nest j h1 h3
  · intro g hg; cases hg
/-- The generators of all further levels lie in the group of a level. -/
theorem Half.nestAll (h : Half n i d C) (hn : n ≤ 1000) {j : Nat} (h1 : i ≤ j) : ∀ k, j + k < n → ∀ g ∈ (C (j + k)).gs, Gen n (C j).gs g
  | 0, h2, g, hg => Gen.of (h.gpm h1 h2) hg
  | k + 1, h2, g, hg => (h.nest (j + k) (by omega) h2 g hg).sub hn (h.gpm h1 (by omega)) (h.nestAll hn h1 k (by omega))
theorem Half.nestTo (h : Half n i d C) (hn : n ≤ 1000) {j k : Nat} (h1 : i ≤ j) (h2 : j ≤ k) (h3 : k < n) : ∀ g ∈ (C k).gs, Gen n (C j).gs g := by
  have := h.nestAll hn h1 (k - j)
  rw [show j + (k - j) = k by omega] at this
  exact this h3
theorem Half.up (h : Half n i d C) : Half n (i + 1) (max d (i + 1)) C := ⟨fun j h1 h2 => h.lv j (by omega) h2, fun j h1 h2 => h.nest j (by omega) h2, fun j h1 h2 => h.done j (by omega) h2⟩
theorem Half.rest (h : Half n i i C) : Half n (i + 1) (i + 1) C := ⟨fun j h1 h2 => h.lv j (by omega) h2, fun j h1 h2 => h.nest j (by omega) h2, fun j h1 h2 => h.done j (by omega) h2⟩
theorem nodup_len : ∀ (X J : List Nat), X.Nodup → (∀ x ∈ X, x ∈ J) → X.length ≤ J.length
  | [], _, _, _ => Nat.zero_le _
  | x :: X, J, hn, hs => by
    have hx := hs x (by simp)
    have := nodup_len X (J.erase x) (List.nodup_cons.1 hn).2 fun y hy => by
      have hne : y ≠ x := fun e => (List.nodup_cons.1 hn).1 (e ▸ hy)
      exact (List.mem_erase_of_ne hne).2 (hs y (List.mem_cons_of_mem _ hy))
    rw [List.length_erase_of_mem hx] at this
    have := List.length_pos_of_mem hx
    rw [List.length_cons]; omega
theorem LvG.od_le {j : Nat} {L : Lv} (h : LvG n j L) : L.od.length ≤ n := by
  have hs : ∀ x ∈ L.od, x ∈ List.range n := fun x hx => by
    obtain ⟨u, hu⟩ := Option.ne_none_iff_exists'.1 ((h.odm x).1 hx)
    exact List.mem_range.2 (h.rcs x u hu).1
  have := nodup_len L.od (List.range n) h.odn hs
  rwa [List.length_range] at this
/-- The size of the group: the product of the numbers of points. -/
def sizeT (C : Nat → Lv) : Nat → Nat → Nat
  | 0, _ => 1
  | f + 1, j => (C j).od.length * sizeT C f (j + 1)
theorem card_from (h : Half n 0 0 C) (hn : n ≤ 1000) : ∀ (f j : Nat), j + f = n → HasCard (Gen n (if j < n then (C j).gs else [])) (sizeT C f j)
  | 0, j, e => by rw [if_neg (by omega)]; exact card_nil n
  | f + 1, j, e => by
    have hj : j < n := by omega
    rw [if_pos hj, sizeT]
    have := card_from h hn f (j + 1) (by omega)
    exact card_step (h.lv j (Nat.zero_le _) hj) hn hj (h.nextPm (Nat.zero_le _) hj) (h.nextFix (Nat.zero_le _) hj) (h.done j (Nat.zero_le _) hj) (h.nextIn (Nat.zero_le _) hj) this
end

/-! ### Sifting -/
/-- What sift gives: p' at level i'. -/
structure Sifted (n : Nat) (C : Nat → Lv) (i : Nat) (p : List Int) (i' : Nat) (p' : List Int) : Prop where
  le : i ≤ i'
  len : i' ≤ n
  pm : Pm n p'
  fix : ∀ x, x < i' → Fixes p' x
  same : ∀ S : List (List Int), (∀ g ∈ S, Pm n g) → (∀ j, i ≤ j → j < n → ∀ g ∈ (C j).gs, Gen n S g) → (Gen n S p ↔ Gen n S p')
section
variable {n i d : Nat} {C D : Nat → Lv} {p p' u : List Int}
theorem sifted_start (hp : Pm n p) (hi : i ≤ n) (hf : ∀ x, x < i → Fixes p x) : Sifted n C i p i p := ⟨Nat.le_refl _, hi, hp, hf, fun _ _ _ => Iff.rfl⟩
theorem Sifted.step (h : Sifted n C i p d p') (hn : n ≤ 1000) (hd : d < n) (hL : LvG n d (C d)) (hu : (C d).rc (nth p' d).toNat = some u) : Sifted n C i p (d + 1) (thenL p' (backL u)) := by
  have hU := hL.pm hn hu
  obtain ⟨h1, h2, h3⟩ := hL.rcs _ u hu
  have hufix : ∀ x, x < d → Fixes u x := fun x hx => h3.fix hn hL.gpm (by omega) fun g hg => hL.gfix g hg x hx
  refine ⟨by have := h.le; omega, hd, h.pm.mul hU.back, fun x hx => ?_, fun S hS hg => ?_⟩
  · rcases Nat.lt_or_ge x d with hl | hl
    · exact Fixes.mul h.pm (by omega) (h.fix x hl) (Fixes.back hU (by omega) (hufix x hl))
    · obtain rfl : x = d := by omega
      unfold Fixes
      rw [h.pm.at hd]
      have e := congrArg (fun l => nth l x) (pm_mulback hU)
      rw [hU.at hd, h2, Int.toNat_natCast] at e
      rw [e]; exact nth_iota n x hd
  · rw [h.same S hS hg]
    have hSu : Gen n S u := h3.sub hn hS (hg d h.le hd)
    constructor
    · intro hp; exact Gen.prod hn hS hp (hSu.back hn hS)
    · intro hp
      have := Gen.prod hn hS hp hSu
      rwa [pm_tomul h.pm hU] at this
theorem Sifted.all (h : Sifted n C i p n p') (hn : n ≤ 1000) : p' = iota n := pm_ext h.pm (pm_one hn) fun k hk => by rw [h.fix k hk, nth_iota n k hk]
/-- Nothing is left: it was in the group. -/
theorem Sifted.inside (h : Sifted n C i p n p') (hn : n ≤ 1000) {S : List (List Int)} (hS : ∀ g ∈ S, Pm n g) (hg : ∀ j, i ≤ j → j < n → ∀ g ∈ (C j).gs, Gen n S g) : Gen n S p :=
  (h.same S hS hg).2 (by rw [h.all hn]; exact .one)
/-- What is in the group leaves nothing. -/
theorem sift_finds (h : Half n 0 0 C) (hn : n ≤ 1000) {j : Nat} (hj : j < n) (hp : Gen n (C j).gs p) : ∃ w, (C j).rc (nth p j).toNat = some w ∧ Gen n (nextGs n C j) (thenL p (backL w)) :=
  schreier (h.lv j (Nat.zero_le _) hj) hn hj (h.nextPm (Nat.zero_le _) hj) (h.nextFix (Nat.zero_le _) hj) (h.done j (Nat.zero_le _) hj) hp
end

/-! ### A generator more -/
def addG (L : Lv) (p : List Int) : Lv := ⟨L.gs ++ [p], L.rc, L.od⟩
def updC (C : Nat → Lv) (i : Nat) (L : Lv) : Nat → Lv := fun j => if j = i then L else C j
section
variable {n i d : Nat} {C D E : Nat → Lv} {p : List Int}
theorem updC_same (C : Nat → Lv) (i : Nat) (L : Lv) : updC C i L i = L := by unfold updC; rw [if_pos rfl]
theorem updC_other (C : Nat → Lv) {i j : Nat} (L : Lv) (h : j ≠ i) : updC C i L j = C j := by unfold updC; rw [if_neg h]
theorem addG_lv (hn : n ≤ 1000) {L : Lv} (h : LvG n i L) (hp : Pm n p) (hf : ∀ x, x < i → Fixes p x) : LvG n i (addG L p) := by
  have hpm : ∀ g ∈ L.gs ++ [p], Pm n g := fun g hg => by
    rcases List.mem_append.1 hg with h1 | h1
    · exact h.gpm g h1
    · rw [List.mem_singleton.1 h1]; exact hp
  refine ⟨hpm, fun g hg => ?_, h.base, fun x u hu => ?_, h.odm, h.odn⟩
  · rcases List.mem_append.1 hg with h1 | h1
    · exact h.gfix g h1
    · rw [List.mem_singleton.1 h1]; exact hf
  · obtain ⟨h1, h2, h3⟩ := h.rcs x u hu
    exact ⟨h1, h2, h3.sub hn hpm fun g hg => Gen.of hpm (List.mem_append_left _ hg)⟩
/-- What complete leaves. -/
structure CompRes (n i : Nat) (C D : Nat → Lv) : Prop where
  good : Half n i i D
  went : Went n i C D
  gs : (D i).gs = (C i).gs
  rcm : ∀ x u, (C i).rc x = some u → (D i).rc x = some u
/-- What add leaves. -/
structure AddRes (n i : Nat) (p : List Int) (C D : Nat → Lv) : Prop where
  good : Half n i i D
  went : Went n i C D
  has : Gen n (if i < n then (D i).gs else []) p
  upper : ∀ S : List (List Int), (∀ g ∈ S, Pm n g) → (∀ j, i ≤ j → j < n → ∀ g ∈ (C j).gs, Gen n S g) → Gen n S p → ∀ j, i ≤ j → j < n → ∀ g ∈ (D j).gs, Gen n S g
theorem CompRes.hit (h : CompRes n i C D) (hn : n ≤ 1000) (hi : i < n) {g : List Int} (hg : g ∈ (C i).gs) : (D i).rc (nth g i).toNat ≠ none := by
  have hl := h.good.lv i (Nat.le_refl _) hi
  obtain ⟨w, hw, -⟩ := h.good.done i (Nat.le_refl _) hi i (iota n) g hl.base (by rw [h.gs]; exact hg)
  rw [(pm_one hn).at hi, nth_iota n i hi, Int.toNat_natCast] at hw
  rw [hw]; simp
theorem od_more {L M : Lv} (hL : LvG n i L) (hM : LvG n i M) (hr : ∀ x u, L.rc x = some u → M.rc x = some u) {y : Nat} (h1 : L.rc y = none) (h2 : M.rc y ≠ none) : L.od.length + 1 ≤ M.od.length := by
  have := nodup_len (y :: L.od) M.od (List.nodup_cons.2 ⟨fun hy => (hL.odm y).1 hy h1, hL.odn⟩) fun x hx => by
    rcases List.mem_cons.1 hx with rfl | hx
    · exact (hM.odm x).2 h2
    · obtain ⟨u, hu⟩ := Option.ne_none_iff_exists'.1 ((hL.odm x).1 hx)
      exact (hM.odm x).2 (by rw [hr x u hu]; simp)
  simpa using this
theorem od_same {L M : Lv} (hL : LvG n i L) (hM : LvG n i M) (hr : ∀ x u, L.rc x = some u → M.rc x = some u) : L.od.length ≤ M.od.length :=
  nodup_len L.od M.od hL.odn fun x hx => by
    obtain ⟨u, hu⟩ := Option.ne_none_iff_exists'.1 ((hL.odm x).1 hx)
    exact (hM.odm x).2 (by rw [hr x u hu]; simp)
/-- What add's loop keeps: the levels from t on are done, those below are as at the start. i0: the level at which p got stuck. -/
structure Adding (n i0 t : Nat) (p : List Int) (C D : Nat → Lv) : Prop where
  good : Half n t t D
  low : ∀ j, j < t → D j = C j
  mono : ∀ j, ∀ g ∈ (C j).gs, g ∈ (D j).gs
  has : t ≤ i0 → p ∈ (D t).gs
  upper : ∀ S : List (List Int), (∀ g ∈ S, Pm n g) → (∀ j, t ≤ j → j < n → ∀ g ∈ (C j).gs, Gen n S g) → Gen n S p → ∀ j, t ≤ j → j < n → ∀ g ∈ (D j).gs, Gen n S g
  pot0 : t ≤ i0 → ∀ j, t ≤ j → j ≤ i0 → potC n D j + 1 ≤ potC n C j
  pot : ∀ j, t ≤ j → potC n D j ≤ potC n C j
  sum : ∀ j, t ≤ j → (D j).gs.length + potC n D j ≤ (C j).gs.length + potC n C j
theorem adding_start (h : Half n d d C) {i0 : Nat} (hi : d ≤ i0) (p : List Int) : Adding n i0 (i0 + 1) p C C :=
  ⟨⟨fun j h1 h2 => h.lv j (by omega) h2, fun j h1 h2 => h.nest j (by omega) h2, fun j h1 h2 => h.done j (by omega) h2⟩, fun _ _ => rfl, fun _ _ h => h, fun h => by omega, fun _ _ hg _ => hg, fun h => by omega, fun _ _ => Nat.le_refl _, fun _ _ => Nat.le_refl _⟩
/-- Before complete: one generator more. -/
theorem Adding.half {i0 : Nat} (h : Adding n i0 (i + 1) p C D) (hn : n ≤ 1000) (hC : Half n d d C) (hdi : d ≤ i) (hi : i ≤ i0) (hin : i0 < n) (hp : Pm n p) (hf : ∀ x, x < i0 → Fixes p x) : Half n i (i + 1) (updC D i (addG (C i) p)) := by
  have hl := addG_lv hn (hC.lv i hdi (by omega)) hp fun x hx => hf x (by omega)
  refine ⟨fun j h1 h2 => ?_, fun j h1 h2 => ?_, fun j h1 h2 => ?_⟩
  · by_cases e : j = i
    · rw [e, updC_same]; exact hl
    · rw [updC_other _ _ e]; exact h.good.lv j (by omega) h2
  · rw [updC_other _ _ (by omega)]
    by_cases e : j = i
    · rw [e, updC_same]
      intro g hg
      refine h.upper _ hl.gpm (fun k h3 h4 g hg => ?_) (Gen.of hl.gpm (List.mem_append_right _ (by simp))) (i + 1) (by omega) (by omega) g hg
      exact (hC.nestTo hn hdi (by omega) h4 g hg).sub hn hl.gpm fun x hx => Gen.of hl.gpm (List.mem_append_left _ hx)
    · rw [updC_other _ _ e]; exact h.good.nest j (by omega) h2
  · have e : nextGs n (updC D i (addG (C i) p)) j = nextGs n D j := by unfold nextGs; rw [updC_other _ _ (by omega)]
    rw [updC_other _ _ (by omega), e]
    exact h.good.done j h1 h2
/-- Behind complete. -/
theorem Adding.next {i0 : Nat} (h : Adding n i0 (i + 1) p C D) (hn : n ≤ 1000) (hC : Half n d d C) (hdi : d ≤ i) (hi : i ≤ i0) (hin : i0 < n) (hst : (C i0).rc (nth p i0).toNat = none) (hE : CompRes n i (updC D i (addG (C i) p)) E) : Adding n i0 i p C E := by
  have hCi := hC.lv i hdi (by omega)
  have hEi := hE.good.lv i (Nat.le_refl _) (by omega)
  have hgs : (E i).gs = (C i).gs ++ [p] := by rw [hE.gs, updC_same]; rfl
  have hp1 : potC n (updC D i (addG (C i) p)) (i + 1) = potC n D (i + 1) := pot_congr fun k h1 => by rw [updC_other _ _ (by omega)]
  have hpj : ∀ j, i + 1 ≤ j → potC n (updC D i (addG (C i) p)) j = potC n D j := fun j hj => pot_congr fun k h1 => by rw [updC_other _ _ (by omega)]
  have hrc : ∀ x u, (C i).rc x = some u → (E i).rc x = some u := fun x u hu => hE.rcm x u (by rw [updC_same]; exact hu)
  have hod := od_same hCi hEi hrc
  have hod1 : i = i0 → (C i).od.length + 1 ≤ (E i).od.length := fun e => by
    subst e
    exact od_more hCi hEi hrc hst (hE.hit hn (by omega) (by rw [updC_same]; exact List.mem_append_right _ (by simp)))
  have hle := hEi.od_le
  have hpi : potC n E i ≤ potC n C i := by
    rw [pot_step (C := E) (by omega), pot_step (C := C) (by omega)]
    have h1 := hE.went.pot (i + 1) (by omega)
    rw [hp1] at h1
    have h2 := h.pot (i + 1) (Nat.le_refl _)
    omega
  have hpi1 : potC n E i + 1 ≤ potC n C i := by
    rw [pot_step (C := E) (by omega), pot_step (C := C) (by omega)]
    have h1 := hE.went.pot (i + 1) (by omega)
    rw [hp1] at h1
    have h2 := h.pot (i + 1) (Nat.le_refl _)
    rcases Nat.eq_or_lt_of_le hi with e | e
    · have := hod1 e; omega
    · have := h.pot0 (by omega) (i + 1) (Nat.le_refl _) (by omega); omega
  refine ⟨hE.good, fun j hj => by rw [hE.went.low j hj, updC_other _ _ (by omega)]; exact h.low j (by omega), fun j g hg => ?_, fun _ => by rw [hgs]; simp, fun S hS hg hpS j h1 h2 g hgj => ?_, fun _ j h1 h2 => ?_, fun j h1 => ?_, fun j h1 => ?_⟩
  · by_cases e : j = i
    · rw [e] at hg ⊢; rw [hgs]; exact List.mem_append_left _ hg
    · exact hE.went.mono j g (by rw [updC_other _ _ e]; exact h.mono j g hg)
  · refine (hE.good.nestTo hn (Nat.le_refl _) h1 h2 g hgj).sub hn hS fun x hx => ?_
    rw [hgs] at hx
    rcases List.mem_append.1 hx with h3 | h3
    · exact hg i (Nat.le_refl _) (by omega) x h3
    · rw [List.mem_singleton.1 h3]; exact hpS
  · rcases Nat.eq_or_lt_of_le h1 with rfl | h3
    · exact hpi1
    · have h4 := hE.went.pot j (by omega)
      rw [hpj j h3] at h4
      have := h.pot0 (by omega) j h3 h2; omega
  · rcases Nat.eq_or_lt_of_le h1 with rfl | h3
    · exact hpi
    · have h4 := hE.went.pot j (by omega)
      rw [hpj j h3] at h4
      have := h.pot j h3; omega
  · rcases Nat.eq_or_lt_of_le h1 with rfl | h3
    · rw [hgs, List.length_append]; simp only [List.length_cons, List.length_nil]; omega
    · have h4 := hE.went.sum j (by omega)
      rw [hpj j h3, updC_other _ _ (by omega)] at h4
      have := h.sum j h3; omega
/-- The end of add. p0: what was to be added. -/
theorem Adding.res {i0 : Nat} {p0 : List Int} (h : Adding n i0 d p C D) (hn : n ≤ 1000) (hin : i0 < n) (hd : d ≤ i0) (hs : Sifted n C d p0 i0 p) : AddRes n d p0 C D := by
  have hdn : d < n := by omega
  have hgp := h.good.gpm (Nat.le_refl _) hdn
  refine ⟨h.good, ⟨h.low, h.mono, h.pot, h.sum⟩, ?_, fun S hS hg hp => h.upper S hS hg ((hs.same S hS hg).1 hp)⟩
  rw [if_pos hdn, hs.same _ hgp fun j h1 h2 g hg => h.good.nestTo hn (Nat.le_refl _) h1 h2 g (h.mono j g hg)]
  exact Gen.of hgp (h.has hd)
theorem addRes_none {p0 : List Int} (h : Half n d d C) (hn : n ≤ 1000) (hs : Sifted n C d p0 n p) : AddRes n d p0 C C := by
  refine ⟨h, Went.refl _ _ _, ?_, fun _ _ hg _ => hg⟩
  split
  · rename_i hdn
    exact hs.inside hn (h.gpm (Nat.le_refl _) hdn) fun j h1 h2 => h.nestTo hn (Nat.le_refl _) h1 h2
  · rename_i hdn
    exact hs.inside hn (fun g hg => by cases hg) fun j h1 h2 => by omega

/-! ### complete -/
def PairOK (n i : Nat) (D : Nat → Lv) (x : Nat) (g : List Int) : Prop := ∀ u, (D i).rc x = some u → ∃ w, (D i).rc (nth (thenL u g) i).toNat = some w ∧ Gen n (nextGs n D i) (thenL (thenL u g) (backL w))
structure Compl (n i : Nat) (C D : Nat → Lv) (k m : Nat) : Prop where
  half : Half n i (i + 1) D
  went : Went n i C D
  gs : (D i).gs = (C i).gs
  rcm : ∀ x u, (C i).rc x = some u → (D i).rc x = some u
  all : ∀ x ∈ (D i).od.take k, ∀ g ∈ (D i).gs, PairOK n i D x g
  now : ∀ h : k < (D i).od.length, ∀ g ∈ (D i).gs.take m, PairOK n i D (D i).od[k] g
theorem compl_start (h : Half n i (i + 1) C) : Compl n i C C 0 0 := ⟨h, Went.refl _ _ _, rfl, fun _ _ h => h, fun x hx => by simp at hx, fun _ g hg => by simp at hg⟩
theorem Compl.row {k : Nat} (h : Compl n i C D k (D i).gs.length) (hk : k < (D i).od.length) : Compl n i C D (k + 1) 0 := by
  refine ⟨h.half, h.went, h.gs, h.rcm, fun x hx g hg => ?_, fun _ g hg => by simp at hg⟩
  rw [List.take_succ_eq_append_getElem hk] at hx
  rcases List.mem_append.1 hx with h1 | h1
  · exact h.all x h1 g hg
  · rw [List.mem_singleton.1 h1]
    exact h.now hk g (by rw [List.take_length]; exact hg)
theorem Compl.res (hi : i < n) (h : Compl n i C D (D i).od.length 0) : CompRes n i C D := by
  have hl := h.half.lv i (Nat.le_refl _) hi
  refine ⟨⟨h.half.lv, h.half.nest, fun j h1 h2 => ?_⟩, h.went, h.gs, h.rcm⟩
  rcases Nat.eq_or_lt_of_le h1 with rfl | h3
  · intro x u g hu hg
    exact h.all x (by rw [List.take_length]; exact (hl.odm x).2 (by rw [hu]; simp)) g hg u hu
  · exact h.half.done j h3 h2
/-- The product leads to a point that was reached: the rest was added behind. -/
theorem Compl.found {k m : Nat} (h : Compl n i C D k m) (hn : n ≤ 1000) (hi : i < n) (hk : k < (D i).od.length) (hm : m < (D i).gs.length) {u w : List Int} (hu : (D i).rc (D i).od[k] = some u) (hw : (D i).rc (nth (thenL u (D i).gs[m]) i).toNat = some w)
    (hE : AddRes n (i + 1) (thenL (thenL u (D i).gs[m]) (backL w)) D E) : Compl n i C E k (m + 1) := by
  have hl := h.half.lv i (Nat.le_refl _) hi
  have e : E i = D i := hE.went.low i (Nat.lt_succ_self i)
  have hg := List.getElem_mem hm
  have hq : Gen n (D i).gs (thenL (thenL u (D i).gs[m]) (backL w)) := Gen.prod hn hl.gpm ((hl.rcs _ u hu).2.2.mul hg) ((hl.rcs _ w hw).2.2.back hn hl.gpm)
  have hnx : ∀ g ∈ nextGs n D i, g ∈ nextGs n E i := fun g hg => by
    unfold nextGs at hg ⊢
    split at hg
    · rename_i h3; rw [if_pos h3]; exact hE.went.mono _ g hg
    · cases hg
  have hnp : ∀ g ∈ nextGs n E i, Pm n g := fun g hg => by
    unfold nextGs at hg
    split at hg
    · rename_i h3; exact hE.good.gpm (Nat.le_refl _) h3 g hg
    · cases hg
  have hpair : ∀ x g, PairOK n i D x g → PairOK n i E x g := fun x g hp v hv => by
    rw [e] at hv
    obtain ⟨w', h1, h2⟩ := hp v hv
    exact ⟨w', by rw [e]; exact h1, h2.sub hn hnp fun g hg => Gen.of hnp (hnx g hg)⟩
  have hup := hE.went.up hi
  refine ⟨⟨fun j h1 h2 => ?_, fun j h1 h2 => ?_, fun j h1 h2 => hE.good.done j h1 h2⟩, h.went.trans hup, by rw [e]; exact h.gs, by rw [e]; exact h.rcm, ?_, ?_⟩
  · rcases Nat.eq_or_lt_of_le h1 with rfl | h3
    · rw [e]; exact hl
    · exact hE.good.lv j h3 h2
  · rcases Nat.eq_or_lt_of_le h1 with rfl | h3
    · rw [e]
      intro g hg
      exact hE.upper _ hl.gpm (fun j h4 h5 g hg => h.half.nestTo hn (Nat.le_refl _) (by omega) h5 g hg) hq _ (Nat.le_refl _) h2 g hg
    · exact hE.good.nest j h3 h2
  · rw [e]; exact fun x hx g hg => hpair x g (h.all x hx g hg)
  · rw [e]
    intro hk' g hg
    rw [List.take_succ_eq_append_getElem hm] at hg
    rcases List.mem_append.1 hg with h3 | h3
    · exact hpair _ g (h.now hk' g h3)
    · rw [List.mem_singleton.1 h3]
      intro v hv
      rw [e, hu] at hv
      obtain rfl := Option.some.inj hv
      exact ⟨w, by rw [e]; exact hw, hE.has⟩
/-- The product leads to a new point. -/
def reachG (L : Lv) (x : Nat) (v : List Int) : Lv := ⟨L.gs, fun y => if y = x then some v else L.rc y, L.od ++ [x]⟩
theorem Compl.new {k m : Nat} (h : Compl n i C D k m) (hn : n ≤ 1000) (hi : i < n) (hk : k < (D i).od.length) (hm : m < (D i).gs.length) {u : List Int} (hu : (D i).rc (D i).od[k] = some u) (hw : (D i).rc (nth (thenL u (D i).gs[m]) i).toNat = none) :
    Compl n i C (updC D i (reachG (D i) (nth (thenL u (D i).gs[m]) i).toNat (thenL u (D i).gs[m]))) k (m + 1) := by
  obtain ⟨v, hv⟩ : ∃ v, thenL u (D i).gs[m] = v := ⟨_, rfl⟩
  obtain ⟨y, hy⟩ : ∃ y, (nth v i).toNat = y := ⟨_, rfl⟩
  have hl := h.half.lv i (Nat.le_refl _) hi
  have hg := List.getElem_mem hm
  have hgv : Gen n (D i).gs v := by rw [← hv]; exact (hl.rcs _ u hu).2.2.mul hg
  have hV := hgv.pm hn hl.gpm
  have hr := hV.rng hi
  rw [hv, hy] at hw
  rw [hv, hy]
  obtain ⟨E, hE⟩ : ∃ E, updC D i (reachG (D i) y v) = E := ⟨_, rfl⟩
  have e : E i = reachG (D i) y v := by rw [← hE, updC_same]
  have eo : ∀ j, j ≠ i → E j = D j := fun j hj => by rw [← hE, updC_other _ _ hj]
  rw [hE]
  have hrc : ∀ x w, (D i).rc x = some w → (E i).rc x = some w := fun x w hx => by
    rw [e]
    show (if x = y then some v else (D i).rc x) = some w
    rw [if_neg (fun e => by rw [e, hw] at hx; cases hx)]; exact hx
  have hlE : LvG n i (E i) := by
    rw [e]
    refine ⟨hl.gpm, hl.gfix, ?_, fun x w hx => ?_, fun x => ?_, ?_⟩
    · have := hrc i _ hl.base
      rwa [e] at this
    · have hx : (if x = y then some v else (D i).rc x) = some w := hx
      by_cases ex : x = y
      · rw [if_pos ex] at hx
        obtain rfl := Option.some.inj hx
        exact ⟨by omega, by omega, hgv⟩
      · rw [if_neg ex] at hx; exact hl.rcs x w hx
    · show x ∈ (D i).od ++ [y] ↔ (if x = y then some v else (D i).rc x) ≠ none
      rw [List.mem_append, List.mem_singleton, hl.odm]
      by_cases ex : x = y
      · simp [ex]
      · simp [ex]
    · refine List.nodup_append.2 ⟨hl.odn, by simp, fun a ha b hb e2 => ?_⟩
      rw [List.mem_singleton.1 hb] at e2
      rw [e2] at ha
      exact (hl.odm y).1 ha hw
  have hnx : nextGs n E i = nextGs n D i := by unfold nextGs; rw [eo (i + 1) (by omega)]
  have hpair : ∀ x g, x ∈ (D i).od → PairOK n i D x g → PairOK n i E x g := fun x g hx hp z hz => by
    obtain ⟨z2, hz2⟩ := Option.ne_none_iff_exists'.1 ((hl.odm x).1 hx)
    have := hrc x z2 hz2
    rw [hz] at this
    obtain rfl := Option.some.inj this
    obtain ⟨w', h1, h2⟩ := hp z hz2
    exact ⟨w', hrc _ _ h1, by rw [hnx]; exact h2⟩
  have hode : (E i).od = (D i).od ++ [y] := by rw [e]; rfl
  have hgse : (E i).gs = (D i).gs := by rw [e]; rfl
  have hpj : ∀ j, i < j → potC n E j = potC n D j := fun j hj => pot_congr fun k h1 => by rw [eo _ (by omega)]
  have hpi : potC n E i ≤ potC n D i := by
    rw [pot_step (C := E) hi, pot_step (C := D) hi, hpj (i + 1) (Nat.lt_succ_self i), hode, List.length_append]; simp only [List.length_cons, List.length_nil]; omega
  have hwent : Went n i D E := by
    refine ⟨fun j hj => eo j (by omega), fun j g hg => ?_, fun j hj => ?_, fun j hj => ?_⟩
    · by_cases ej : j = i
      · rw [ej] at hg ⊢; rw [hgse]; exact hg
      · rw [eo j ej]; exact hg
    · rcases Nat.eq_or_lt_of_le hj with rfl | h3
      · exact hpi
      · rw [hpj j h3]; exact Nat.le_refl _
    · rcases Nat.eq_or_lt_of_le hj with rfl | h3
      · rw [hgse]; omega
      · rw [hpj j h3, eo j (by omega)]; exact Nat.le_refl _
  refine ⟨⟨fun j h1 h2 => ?_, fun j h1 h2 => ?_, fun j h1 h2 => ?_⟩, h.went.trans hwent, by rw [hgse]; exact h.gs, fun x w hx => hrc x w (h.rcm x w hx), fun x hx g hg => ?_, fun hk' g hg => ?_⟩
  · rcases Nat.eq_or_lt_of_le h1 with rfl | h3
    · exact hlE
    · rw [eo j (by omega)]; exact h.half.lv j h1 h2
  · rw [eo (j + 1) (by omega)]
    rcases Nat.eq_or_lt_of_le h1 with rfl | h3
    · rw [hgse]; exact h.half.nest i h1 h2
    · rw [eo j (by omega)]; exact h.half.nest j h1 h2
  · have : nextGs n E j = nextGs n D j := by unfold nextGs; rw [eo (j + 1) (by omega)]
    rw [eo j (by omega), this]
    exact h.half.done j h1 h2
  · rw [hode, List.take_append_of_le_length (by omega)] at hx
    rw [hgse] at hg
    exact hpair x g (List.mem_of_mem_take hx) (h.all x hx g hg)
  · have ek : (E i).od[k] = (D i).od[k] := by
      have : (E i).od[k]? = (D i).od[k]? := by rw [hode, List.getElem?_append_left hk]
      rw [List.getElem?_eq_getElem hk', List.getElem?_eq_getElem hk] at this
      exact Option.some.inj this
    rw [ek]
    rw [hgse, List.take_succ_eq_append_getElem hm] at hg
    rcases List.mem_append.1 hg with h3 | h3
    · exact hpair _ g (List.getElem_mem hk) (h.now hk g h3)
    · rw [List.mem_singleton.1 h3]
      intro z hz
      have := hrc _ _ hu
      rw [hz] at this
      obtain rfl := Option.some.inj this
      refine ⟨v, ?_, ?_⟩
      · rw [hv, hy, e]
        show (if y = y then some v else (D i).rc y) = some v
        rw [if_pos rfl]
      · rw [hv, pm_mulback hV]; exact .one
end
end Go.Proofs.Ytplekfgadbjgdaa

namespace Go.Proofs.Ytplekfgadbjgdaa
open Go.RowKit Go.Sl

/-- The element of a letter: k stands for generator k - 1, -k for its inverse. -/
def genL (S : List (List Int)) (x : Int) : List Int := if x < 0 then backL (S.getD (x.natAbs - 1) []) else S.getD (x.natAbs - 1) []
def okL (S : List (List Int)) (x : Int) : Prop := x ≠ 0 ∧ x.natAbs ≤ S.length
def valL (n : Nat) (S : List (List Int)) (w : List Int) : List Int := w.foldl (fun p x => thenL p (genL S x)) (iota n)
theorem valL_snoc (n : Nat) (S : List (List Int)) (w : List Int) (x : Int) : valL n S (w ++ [x]) = thenL (valL n S w) (genL S x) := by unfold valL; rw [List.foldl_append]; rfl
section
variable {n : Nat} {S : List (List Int)}
theorem okL_mem {x : Int} (h : okL S x) : S.getD (x.natAbs - 1) [] ∈ S := by
  have hl : x.natAbs - 1 < S.length := by have := h.1; have := h.2; omega
  rw [List.getD_eq_getElem?_getD, List.getElem?_eq_getElem hl]
  exact List.getElem_mem hl
theorem genL_pm (hS : ∀ g ∈ S, Pm n g) {x : Int} (h : okL S x) : Pm n (genL S x) := by
  unfold genL
  split
  · exact (hS _ (okL_mem h)).back
  · exact hS _ (okL_mem h)
theorem gen_genL {p : List Int} (hp : Gen n S p) {x : Int} (h : okL S x) : Gen n S (thenL p (genL S x)) := by
  unfold genL
  split
  · exact hp.inv (okL_mem h)
  · exact hp.mul (okL_mem h)
theorem valL_gen : ∀ (w : List Int), (∀ x ∈ w, okL S x) → Gen n S (valL n S w) := by
  intro w
  induction hl : w.length generalizing w with
  | zero => intro _; rw [List.eq_nil_of_length_eq_zero hl]; exact .one
  | succ k ih =>
    intro h
    have hne : w ≠ [] := fun e => by rw [e] at hl; cases hl
    rw [← List.dropLast_concat_getLast hne, valL_snoc]
    exact gen_genL (ih _ (by rw [List.length_dropLast, hl]; rfl) fun x hx => h x ((List.dropLast_sublist w).subset hx)) (h _ (List.getLast_mem hne))

/-- An element that was found: from which one, by which letter; d: by how many letters. -/
structure Way where
  p : List Int
  fr : Nat
  lt : Int
def wayAt (F : List Way) (b : Nat) : Way := F.getD b ⟨[], 0, 0⟩
theorem wayAt_old {F : List Way} {x : Way} {b : Nat} (h : b < F.length) : wayAt (F ++ [x]) b = wayAt F b := by
  unfold wayAt; rw [List.getD_eq_getElem?_getD, List.getD_eq_getElem?_getD, List.getElem?_append_left h]
theorem wayAt_new {F : List Way} {x : Way} : wayAt (F ++ [x]) F.length = x := by unfold wayAt; simp
/-- What search has found when entry i is looked at; dn: the letters of entry i that are done. d: by how many letters. -/
structure Bfs (n : Nat) (S : List (List Int)) (F : List Way) (d : Nat → Nat) (i : Nat) (dn : Int → Prop) : Prop where
  pos : 0 < F.length
  first : (wayAt F 0).p = iota n
  d0 : d 0 = 0
  step : ∀ b, b < F.length → 0 < b → (wayAt F b).fr < b ∧ okL S (wayAt F b).lt ∧ (wayAt F b).p = thenL (wayAt F (wayAt F b).fr).p (genL S (wayAt F b).lt) ∧ d b = d (wayAt F b).fr + 1
  uniq : ∀ a b, a < F.length → b < F.length → (wayAt F a).p = (wayAt F b).p → a = b
  mono : ∀ a b, a ≤ b → b < F.length → d a ≤ d b
  near : ∀ b, b < F.length → d b ≤ d i + 1
  le : i < F.length
  closed : ∀ a, a < i → ∀ x, okL S x → ∃ b, b < F.length ∧ (wayAt F b).p = thenL (wayAt F a).p (genL S x) ∧ d b ≤ d a + 1
  now : ∀ x, dn x → okL S x → ∃ b, b < F.length ∧ (wayAt F b).p = thenL (wayAt F i).p (genL S x) ∧ d b ≤ d i + 1
variable {F : List Way} {d : Nat → Nat} {i : Nat} {dn : Int → Prop}
theorem bfs_start : Bfs n S [⟨iota n, 0, 0⟩] (fun _ => 0) 0 (fun _ => False) :=
  ⟨by simp, rfl, rfl, fun b h h0 => by simp at h; omega, fun a b ha hb _ => by simp at ha hb; omega, fun _ _ _ _ => Nat.le_refl _, fun _ _ => by simp, by simp, fun a ha => absurd ha (Nat.not_lt_zero _), fun _ h => h.elim⟩
/-- All elements found are in the group. -/
theorem Bfs.gen (h : Bfs n S F d i dn) : ∀ b, b < F.length → Gen n S (wayAt F b).p := by
  intro b
  induction b using Nat.strongRecOn with
  | ind b ih =>
    intro hb
    rcases Nat.eq_zero_or_pos b with rfl | h0
    · rw [h.first]; exact .one
    · obtain ⟨hf, hok, e, -⟩ := h.step b hb h0
      rw [e]; exact gen_genL (ih _ hf (by omega)) hok
theorem nodup_lenP : ∀ (X J : List (List Int)), X.Nodup → (∀ x ∈ X, x ∈ J) → X.length ≤ J.length := by
  intro X
  induction X with
  | nil => intro J _ _; exact Nat.zero_le _
  | cons x X ih =>
    intro J hn hs
    have hx := hs x (by simp)
    have := ih (J.erase x) (List.nodup_cons.1 hn).2 fun y hy => by
      have hne : y ≠ x := fun e => (List.nodup_cons.1 hn).1 (e ▸ hy)
      exact (List.mem_erase_of_ne hne).2 (hs y (List.mem_cons_of_mem _ hy))
    rw [List.length_erase_of_mem hx] at this
    have := List.length_pos_of_mem hx
    rw [List.length_cons]; omega
/-- There are not more of them than elements. -/
theorem Bfs.le_card (h : Bfs n S F d i dn) {k : Nat} (hc : HasCard (Gen n S) k) : F.length ≤ k := by
  obtain ⟨l, hn, e, hm⟩ := hc
  have at' : ∀ b (hb : b < F.length), F[b] = wayAt F b := fun b hb => by unfold wayAt; rw [List.getD_eq_getElem?_getD, List.getElem?_eq_getElem hb]; rfl
  have hnd : (F.map Way.p).Nodup := by
    refine List.pairwise_iff_getElem.2 fun a b ha hb hab e => ?_
    rw [List.getElem_map, List.getElem_map] at e
    rw [List.length_map] at ha hb
    rw [at' a ha, at' b hb] at e
    have := h.uniq a b ha hb e
    omega
  have hsub : ∀ x ∈ F.map Way.p, x ∈ l := fun x hx => by
    obtain ⟨y, hy, rfl⟩ := List.mem_map.1 hx
    obtain ⟨b, hb, rfl⟩ := List.getElem_of_mem hy
    rw [at' b hb]
    exact (hm _).2 (h.gen b hb)
  have := nodup_lenP _ _ hnd hsub
  rw [List.length_map] at this
  omega
/-- A letter leads to an element that is known. -/
theorem Bfs.known (h : Bfs n S F d i dn) {x : Int} {b : Nat} (hb : b < F.length) (e : (wayAt F b).p = thenL (wayAt F i).p (genL S x)) : Bfs n S F d i (fun y => dn y ∨ y = x) :=
  ⟨h.pos, h.first, h.d0, h.step, h.uniq, h.mono, h.near, h.le, h.closed, fun y hy hok => by
    rcases hy with hy | rfl
    · exact h.now y hy hok
    · exact ⟨b, hb, e, h.near b hb⟩⟩
/-- A letter leads to a new element. -/
theorem Bfs.new (h : Bfs n S F d i dn) {x : Int} (hx : okL S x) (hno : ∀ b, b < F.length → (wayAt F b).p ≠ thenL (wayAt F i).p (genL S x)) :
    Bfs n S (F ++ [⟨thenL (wayAt F i).p (genL S x), i, x⟩]) (fun b => if b = F.length then d i + 1 else d b) i (fun y => dn y ∨ y = x) := by
  have hle := h.le
  obtain ⟨N, hN⟩ : ∃ N : Way, N = ⟨thenL (wayAt F i).p (genL S x), i, x⟩ := ⟨_, rfl⟩
  rw [← hN]
  have old : ∀ b, b < F.length → wayAt (F ++ [N]) b = wayAt F b := fun b hb => wayAt_old hb
  have new : wayAt (F ++ [N]) F.length = N := wayAt_new
  have hNp : N.p = thenL (wayAt F i).p (genL S x) := by rw [hN]
  have hNf : N.fr = i := by rw [hN]
  have hNl : N.lt = x := by rw [hN]
  have hlen : (F ++ [N]).length = F.length + 1 := by simp
  have hdi : (if i = F.length then d i + 1 else d i) = d i := by rw [if_neg (by omega)]
  refine ⟨by omega, by rw [old 0 h.pos]; exact h.first, ?_, fun b hb h0 => ?_, fun a b ha hb e => ?_, fun a b hab hb => ?_, fun b hb => ?_, by omega, fun a ha y hy => ?_, fun y hy hok => ?_⟩
  · show (if 0 = F.length then d i + 1 else d 0) = 0
    rw [if_neg (by have := h.pos; omega)]; exact h.d0
  · rcases Nat.lt_or_ge b F.length with hl | hl
    · obtain ⟨hf, hok, e, hd⟩ := h.step b hl h0
      rw [old b hl, old (wayAt F b).fr (by omega)]
      refine ⟨hf, hok, e, ?_⟩
      show (if b = F.length then _ else d b) = (if _ = F.length then _ else _) + 1
      rw [if_neg (by omega), if_neg (by omega)]; exact hd
    · obtain rfl : b = F.length := by omega
      rw [new, hNf, hNl, old i hle]
      refine ⟨hle, hx, hNp, ?_⟩
      show (if F.length = F.length then d i + 1 else _) = (if i = F.length then _ else d i) + 1
      rw [if_pos rfl, hdi]
  · rcases Nat.lt_or_ge a F.length with ha1 | ha1 <;> rcases Nat.lt_or_ge b F.length with hb1 | hb1
    · rw [old a ha1, old b hb1] at e; exact h.uniq a b ha1 hb1 e
    · obtain rfl : b = F.length := by omega
      rw [old a ha1, new, hNp] at e; exact absurd e (hno a ha1)
    · obtain rfl : a = F.length := by omega
      rw [old b hb1, new, hNp] at e; exact absurd e.symm (hno b hb1)
    · omega
  · show (if a = F.length then _ else d a) ≤ (if b = F.length then _ else d b)
    by_cases eb : b = F.length
    · rw [if_pos eb]
      split
      · exact Nat.le_refl _
      · exact h.near a (by omega)
    · rw [if_neg eb, if_neg (by omega)]; exact h.mono a b hab (by omega)
  · show (if b = F.length then _ else d b) ≤ (if i = F.length then _ else d i) + 1
    rw [hdi]
    split
    · exact Nat.le_refl _
    · exact h.near b (by omega)
  · obtain ⟨b, hb, e, hd⟩ := h.closed a ha y hy
    refine ⟨b, by omega, by rw [old b hb, old a (by omega)]; exact e, ?_⟩
    show (if b = F.length then _ else d b) ≤ (if a = F.length then _ else d a) + 1
    rw [if_neg (by omega), if_neg (by omega)]; exact hd
  · rcases hy with hy | rfl
    · obtain ⟨b, hb, e, hd⟩ := h.now y hy hok
      refine ⟨b, by omega, by rw [old b hb, old i hle]; exact e, ?_⟩
      show (if b = F.length then _ else d b) ≤ (if i = F.length then _ else d i) + 1
      rw [hdi, if_neg (by omega)]; exact hd
    · refine ⟨F.length, by omega, by rw [new, old i hle, hNp], ?_⟩
      show (if F.length = F.length then d i + 1 else _) ≤ (if i = F.length then _ else d i) + 1
      rw [hdi, if_pos rfl]; exact Nat.le_refl _
/-- The next entry. -/
theorem Bfs.next (h : Bfs n S F d i dn) (hall : ∀ x, okL S x → dn x) (hl : i + 1 < F.length) : Bfs n S F d (i + 1) (fun _ => False) :=
  ⟨h.pos, h.first, h.d0, h.step, h.uniq, h.mono, fun b hb => by have := h.near b hb; have := h.mono i (i + 1) (by omega) hl; omega, hl, fun a ha x hx => by
    rcases Nat.lt_or_ge a i with h1 | h1
    · exact h.closed a h1 x hx
    · obtain rfl : a = i := by omega
      exact h.now x (hall x hx) hx, fun _ h => h.elim⟩
/-- No shorter word leads to the entry that is looked at. -/
theorem Bfs.short (h : Bfs n S F d i dn) : ∀ (k : Nat) (w : List Int), w.length = k → (∀ x ∈ w, okL S x) → (∃ b, b < F.length ∧ (wayAt F b).p = valL n S w ∧ d b ≤ k) ∨ d i ≤ k
  | 0, w, hl, _ => .inl ⟨0, h.pos, by rw [h.first, List.eq_nil_of_length_eq_zero hl]; rfl, by rw [h.d0]; exact Nat.le_refl _⟩
  | k + 1, w, hl, hw => by
    have hne : w ≠ [] := fun e => by rw [e] at hl; cases hl
    rcases h.short k w.dropLast (by rw [List.length_dropLast, hl]; rfl) (fun x hx => hw x ((List.dropLast_sublist w).subset hx)) with ⟨b, hb, e, hd⟩ | hd
    · rcases Nat.lt_or_ge b i with hbi | hbi
      · obtain ⟨c, hc, e2, hd2⟩ := h.closed b hbi _ (hw _ (List.getLast_mem hne))
        left
        refine ⟨c, hc, ?_, by omega⟩
        rw [e2, e, ← valL_snoc, List.dropLast_concat_getLast hne]
      · right; have := h.mono i b hbi hb; omega
    · right; omega
theorem Bfs.shortest (h : Bfs n S F d i dn) {w : List Int} (hw : ∀ x ∈ w, okL S x) (e : valL n S w = (wayAt F i).p) : d i ≤ w.length := by
  rcases h.short _ w rfl hw with ⟨b, hb, e2, hd⟩ | hd
  · rw [e] at e2
    have := h.uniq b i hb h.le e2
    subst this; exact hd
  · exact hd
/-- All are found in the end. -/
theorem Bfs.full (h : Bfs n S F d i dn) (hall : ∀ x, okL S x → dn x) (hl : i + 1 = F.length) {p : List Int} (hp : Gen n S p) : ∃ b, b < F.length ∧ (wayAt F b).p = p := by
  have cl : ∀ a, a < F.length → ∀ x, okL S x → ∃ b, b < F.length ∧ (wayAt F b).p = thenL (wayAt F a).p (genL S x) := fun a ha x hx => by
    rcases Nat.lt_or_ge a i with h1 | h1
    · obtain ⟨b, hb, e, -⟩ := h.closed a h1 x hx; exact ⟨b, hb, e⟩
    · obtain rfl : a = i := by omega
      obtain ⟨b, hb, e, -⟩ := h.now x (hall x hx) hx; exact ⟨b, hb, e⟩
  have idx : ∀ g ∈ S, ∃ k, k < S.length ∧ S.getD k [] = g := fun g hg => by
    obtain ⟨k, hk, e⟩ := List.getElem_of_mem hg
    exact ⟨k, hk, by rw [List.getD_eq_getElem?_getD, List.getElem?_eq_getElem hk]; exact e⟩
  induction hp with
  | one => exact ⟨0, h.pos, h.first⟩
  | @mul p g _ hg ih =>
    obtain ⟨b, hb, e⟩ := ih
    obtain ⟨k, hk, eg⟩ := idx g hg
    have hx : okL S ((k : Int) + 1) := ⟨by omega, by omega⟩
    obtain ⟨c, hc, e2⟩ := cl b hb _ hx
    refine ⟨c, hc, by rw [e2, e]; unfold genL; rw [if_neg (by omega), show ((k : Int) + 1).natAbs - 1 = k by omega, eg]⟩
  | @inv p g _ hg ih =>
    obtain ⟨b, hb, e⟩ := ih
    obtain ⟨k, hk, eg⟩ := idx g hg
    have hx : okL S (-((k : Int) + 1)) := ⟨by omega, by omega⟩
    obtain ⟨c, hc, e2⟩ := cl b hb _ hx
    refine ⟨c, hc, by rw [e2, e]; unfold genL; rw [if_pos (by omega), show (-((k : Int) + 1)).natAbs - 1 = k by omega, eg]⟩
end
/-- The word of an entry, from its end. -/
def wayL (F : List Way) : Nat → Nat → List Int
  | 0, _ => []
  | f + 1, b => if 0 < b then (wayAt F b).lt :: wayL F f (wayAt F b).fr else []
section
variable {n : Nat} {S : List (List Int)} {F : List Way} {d : Nat → Nat} {i : Nat} {dn : Int → Prop}
theorem Bfs.way (h : Bfs n S F d i dn) : ∀ (f b : Nat), b < F.length → b < f → valL n S (wayL F f b).reverse = (wayAt F b).p ∧ (wayL F f b).length = d b ∧ ∀ x ∈ wayL F f b, okL S x
  | 0, b, hb, hf => absurd hf (Nat.not_lt_zero _)
  | f + 1, b, hb, hf => by
    rw [wayL]
    by_cases h0 : 0 < b
    · rw [if_pos h0]
      obtain ⟨hfr, hok, e, hd⟩ := h.step b hb h0
      obtain ⟨i1, i2, i3⟩ := h.way f (wayAt F b).fr (by omega) (by omega)
      refine ⟨by rw [List.reverse_cons, valL_snoc, i1]; exact e.symm, by rw [List.length_cons, i2]; exact hd.symm, fun x hx => ?_⟩
      rcases List.mem_cons.1 hx with rfl | hx
      · exact hok
      · exact i3 x hx
    · obtain rfl : b = 0 := by omega
      rw [if_neg (by omega)]
      exact ⟨h.first.symm, h.d0.symm, fun x hx => by cases hx⟩
end
end Go.Proofs.Ytplekfgadbjgdaa

namespace Go.Proofs.Ytplekfgadbjgdaa
open Go.RowKit Go.Sl

def fact : Nat → Nat
  | 0 => 1
  | n + 1 => (n + 1) * fact n
theorem fact_pos (n : Nat) : 0 < fact n := by
  induction n with
  | zero => decide
  | succ n ih => exact Nat.mul_pos (by omega) ih
/-- How many of the numbers are smaller. -/
def less (xs : List Int) (x : Int) : Nat := (xs.filter fun y => decide (y < x)).length
/-- The rank, from the first element on. -/
def rk : List Int → Nat
  | [] => 0
  | x :: xs => less xs x * fact xs.length + rk xs
theorem less_le (xs : List Int) (x : Int) : less xs x ≤ xs.length := List.length_filter_le _ _
/-- Strictly ascending. -/
def Asc (l : List Int) : Prop := l.Pairwise (· < ·)
theorem asc_iota (n : Nat) : Asc (iota n) := by
  unfold Asc iota
  rw [List.pairwise_map]
  refine List.Pairwise.imp ?_ List.pairwise_lt_range
  intro a b h
  simpa using h
theorem Asc.erase {l : List Int} (h : Asc l) (i : Nat) : Asc (l.eraseIdx i) := List.Pairwise.sublist (List.eraseIdx_sublist l i) h
theorem Asc.lt {l : List Int} (h : Asc l) {i j : Nat} (hij : i < j) (hj : j < l.length) : nth l i < nth l j := by
  rw [nth_lt hj, nth_lt (by omega)]
  exact List.pairwise_iff_getElem.1 h i j (by omega) hj hij
theorem less_perm {a b : List Int} (h : a.Perm b) (x : Int) : less a x = less b x := (h.filter _).length_eq
theorem less_cons_self (xs : List Int) (x : Int) : less (x :: xs) x = less xs x := by simp [less]
/-- In an ascending list as many numbers are smaller than element i as stand before it. -/
theorem less_nth {l : List Int} (h : Asc l) (i : Nat) (hi : i < l.length) : less l (nth l i) = i := by
  induction l generalizing i with
  | nil => simp at hi
  | cons a l ih =>
    have ha := List.pairwise_cons.1 h
    cases i with
    | zero =>
      unfold less
      rw [List.filter_eq_nil_iff.2]; rfl
      intro y hy
      rcases List.mem_cons.1 hy with rfl | hy
      · simp [nth]
      · have := ha.1 y hy; simp [nth]; omega
    | succ i =>
      have hi' : i < l.length := by simpa using hi
      have e : nth (a :: l) (i + 1) = nth l i := by simp [nth]
      rw [e]
      have h1 := ih ha.2 i hi'
      have h2 := ha.1 _ (nth_mem hi')
      unfold less at h1 ⊢
      rw [List.filter_cons, if_pos (by simpa using h2), List.length_cons, h1]
/-- What Unrank does: the element at the place that the rank says, then the rest. -/
def unrankGo : Nat → List Int → Nat → List Int
  | 0, _, _ => []
  | f + 1, left, r => nth left (r / fact f) :: unrankGo f (left.eraseIdx (r / fact f)) (r % fact f)
end Go.Proofs.Ytplekfgadbjgdaa

namespace Go.Proofs.Ytplekfgadbjgdaa
open Go.RowKit Go.Sl

/-- Two neighbours exchanged. -/
def swapAt (l : List Int) (i : Nat) : List Int := (l.set i (nth l (i + 1))).set (i + 1) (nth l i)
/-- The exchanges of a change at the first k places. -/
def ringTo (row : List Int) (c : Nat) : Nat → List Int
  | 0 => row
  | k + 1 => if c.testBit k then swapAt (ringTo row c k) k else ringTo row c k
def ringL (row : List Int) (c : Nat) : List Int := ringTo row c (row.length - 1)
def runL (row : List Int) (cs : List Int) : List Int := cs.foldl (fun r c => ringL r c.toNat) row

theorem swapAt_length (l : List Int) (i : Nat) : (swapAt l i).length = l.length := by simp [swapAt]
theorem ringTo_length (row : List Int) (c k : Nat) : (ringTo row c k).length = row.length := by
  induction k with
  | zero => rfl
  | succ k ih => rw [ringTo]; split <;> simp [swapAt_length, ih]
theorem ringL_length (row : List Int) (c : Nat) : (ringL row c).length = row.length := ringTo_length _ _ _
theorem runL_length (row cs : List Int) : (runL row cs).length = row.length := by
  unfold runL
  induction cs generalizing row with
  | nil => rfl
  | cons c cs ih => rw [List.foldl_cons, ih, ringL_length]
theorem runL_append (row a b : List Int) : runL row (a ++ b) = runL (runL row a) b := by simp [runL]
theorem runL_snoc (row a : List Int) (c : Int) : runL row (a ++ [c]) = ringL (runL row a) c.toNat := by simp [runL]
theorem nth_map (f : Int → Int) (l : List Int) (i : Nat) (h : i < l.length) : nth (l.map f) i = f (nth l i) := by
  rw [nth_lt (by simpa using h), nth_lt h, List.getElem_map]
theorem swapAt_map (f : Int → Int) (l : List Int) (i : Nat) (h : i + 1 < l.length) : swapAt (l.map f) i = (swapAt l i).map f := by
  unfold swapAt
  rw [nth_map f l (i + 1) h, nth_map f l i (by omega), List.map_set, List.map_set]
theorem ringTo_map (f : Int → Int) (l : List Int) (c k : Nat) (h : k ≤ l.length - 1) : ringTo (l.map f) c k = (ringTo l c k).map f := by
  induction k with
  | zero => rfl
  | succ k ih =>
    rw [ringTo, ringTo, ih (by omega)]
    split
    · exact swapAt_map f _ _ (by rw [ringTo_length]; omega)
    · rfl
theorem ringL_map (f : Int → Int) (l : List Int) (c : Nat) : ringL (l.map f) c = (ringL l c).map f := by
  unfold ringL
  rw [List.length_map]
  exact ringTo_map f l c _ (Nat.le_refl _)
theorem runL_map (f : Int → Int) (l cs : List Int) : runL (l.map f) cs = (runL l cs).map f := by
  unfold runL
  induction cs generalizing l with
  | nil => rfl
  | cons c cs ih => rw [List.foldl_cons, List.foldl_cons, ringL_map, ih]
/-- The last row of changes that are rung from a row on. -/
theorem runL_from (p cs : List Int) : runL p cs = thenL (runL (iota p.length) cs) p := by
  conv => lhs; rw [← thenL_iota p]
  exact runL_map _ _ _

theorem swapAt_cons (a : Int) (l : List Int) (i : Nat) : swapAt (a :: l) (i + 1) = a :: swapAt l i := by simp [swapAt, nth]
theorem swapAt_perm (l : List Int) : ∀ i, i + 1 < l.length → (swapAt l i).Perm l := by
  induction l with
  | nil => intro i h; simp at h
  | cons a l ih =>
    intro i h
    cases i with
    | zero =>
      cases l with
      | nil => simp at h
      | cons b l => simp only [swapAt, nth]; simp; exact List.Perm.swap _ _ _
    | succ i =>
      rw [swapAt_cons]
      exact (ih i (by simpa using h)).cons a
theorem ringTo_perm (l : List Int) (c k : Nat) (h : k ≤ l.length - 1) : (ringTo l c k).Perm l := by
  induction k with
  | zero => exact List.Perm.refl _
  | succ k ih =>
    rw [ringTo]
    split
    · exact (swapAt_perm _ _ (by rw [ringTo_length]; omega)).trans (ih (by omega))
    · exact ih (by omega)
theorem runL_perm (l cs : List Int) : (runL l cs).Perm l := by
  unfold runL
  induction cs generalizing l with
  | nil => exact List.Perm.refl _
  | cons c cs ih => rw [List.foldl_cons]; exact (ih _).trans (ringTo_perm _ _ _ (Nat.le_refl _))
theorem runL_isPerm {n : Nat} (cs : List Int) (h : n ≤ 1000) : IsPerm (runL (iota n) cs) :=
  ⟨by rw [runL_length, iota_length]; exact runL_perm _ _, by rw [runL_length, iota_length]; exact h⟩

/-- No two neighbouring exchanges. -/
def Apart (c : Nat) : Prop := ∀ j, c.testBit j = true → c.testBit (j + 1) = false
theorem nth_swapAt (l : List Int) (i j : Nat) (h : i + 1 < l.length) : nth (swapAt l i) j = if j = i + 1 then nth l i else if j = i then nth l (i + 1) else nth l j := by
  unfold swapAt
  by_cases h1 : j = i + 1
  · subst h1; rw [if_pos rfl, nth_set_same _ (by simpa using h)]
  · rw [if_neg h1, nth_set_other _ (by omega)]
    by_cases h2 : j = i
    · subst h2; rw [if_pos rfl, nth_set_same _ (by omega)]
    · rw [if_neg h2, nth_set_other _ (by omega)]
/-- A number of exchanges without neighbours, from another one. -/
def chgFix : Nat → Nat → Nat
  | 0, c => c
  | f + 1, c => if c &&& (c >>> 1) ≠ 0 then chgFix f (c &&& (c - 1)) else c
def chgL (n : Nat) (x : Int) : Int := (chgFix 7 (x % ((2 ^ (n - 1) : Nat) : Int)).toNat : Nat)
def changesL (n : Nat) (raw : List Int) (most : Nat) : List Int := (raw.take most).map (chgL n)

end Go.Proofs.Ytplekfgadbjgdaa

namespace Go.Proofs.Ytplekfgadbjgdaa
open Go.RowKit Go.Sl

/-- The inversions of a row. -/
def invR : List Int → Nat
  | [] => 0
  | x :: xs => less xs x + invR xs
def more (xs : List Int) (x : Int) : Nat := (xs.filter fun y => decide (x < y)).length
theorem less_snoc (xs : List Int) (x y : Int) : less (xs ++ [y]) x = less xs x + (if y < x then 1 else 0) := by
  unfold less
  rw [List.filter_append, List.length_append]
  by_cases h : y < x <;> simp [h]
theorem more_snoc (xs : List Int) (x y : Int) : more (xs ++ [y]) x = more xs x + (if x < y then 1 else 0) := by
  unfold more
  rw [List.filter_append, List.length_append]
  by_cases h : x < y <;> simp [h]
theorem invR_snoc (xs : List Int) (x : Int) : invR (xs ++ [x]) = invR xs + more xs x := by
  induction xs with
  | nil => simp [invR, more, less]
  | cons a xs ih =>
    rw [List.cons_append, invR, invR, ih, less_snoc]
    unfold more
    rw [List.filter_cons]
    by_cases h : x < a <;> simp [h] <;> omega
theorem more_le (xs : List Int) (x : Int) : more xs x ≤ xs.length := List.length_filter_le _ _
theorem less_cons (a : Int) (xs : List Int) (x : Int) : less (a :: xs) x = less xs x + (if a < x then 1 else 0) := by
  unfold less
  rw [List.filter_cons]
  by_cases h : a < x <;> simp [h]
theorem invR_swap (l : List Int) : ∀ i, i + 1 < l.length → invR (swapAt l i) + (if nth l (i + 1) < nth l i then 1 else 0) = invR l + (if nth l i < nth l (i + 1) then 1 else 0) := by
  induction l with
  | nil => intro i h; simp at h
  | cons a l ih =>
    intro i h
    cases i with
    | zero =>
      match l, h with
      | b :: zs, _ =>
        have e : swapAt (a :: b :: zs) 0 = b :: a :: zs := rfl
        have e0 : nth (a :: b :: zs) 0 = a := rfl
        have e1 : nth (a :: b :: zs) (0 + 1) = b := rfl
        rw [e, e0, e1, invR, invR, invR, invR, less_cons, less_cons]
        omega
    | succ i =>
      have hi : i + 1 < l.length := by simpa using h
      have e0 : nth (a :: l) (i + 1) = nth l i := by simp [nth]
      have e1 : nth (a :: l) (i + 1 + 1) = nth l (i + 1) := by simp [nth]
      have := ih i hi
      rw [swapAt_cons, e0, e1, invR, invR, less_perm (swapAt_perm l i hi)]
      omega

/-- The row of one exchange. -/
def adjT (n i : Nat) : List Int := swapAt (iota n) i
def adjS (n : Nat) : List (List Int) := (List.range (n - 1)).map (adjT n)
theorem adjS_length (n : Nat) : (adjS n).length = n - 1 := by simp [adjS]
theorem ringTo_pow (row : List Int) (i : Nat) : ∀ k, ringTo row (2 ^ i) k = if i < k then swapAt row i else row
  | 0 => by simp [ringTo]
  | k + 1 => by
    rw [ringTo, ringTo_pow row i k, Nat.testBit_two_pow]
    by_cases h : i = k
    · subst h; simp
    · rw [if_neg (by simpa using h)]
      by_cases h2 : i < k
      · rw [if_pos h2, if_pos (by omega)]
      · rw [if_neg h2, if_neg (by omega)]
theorem ringL_pow (row : List Int) {i : Nat} (h : i + 1 < row.length) : ringL row (2 ^ i) = swapAt row i := by
  unfold ringL
  rw [ringTo_pow, if_pos (by omega)]
theorem pow_toNat (i : Nat) : ((2 : Int) ^ i).toNat = 2 ^ i := by
  have : (2 : Int) ^ i = ((2 ^ i : Nat) : Int) := by norm_cast
  rw [this]; rfl
theorem runL_pow (row : List Int) {i : Nat} (h : i + 1 < row.length) : runL row [(2 : Int) ^ i] = swapAt row i := by
  show ringL row ((2 : Int) ^ i).toNat = _
  rw [pow_toNat, ringL_pow row h]
theorem adjT_then {n : Nat} {p : List Int} (hp : p.length = n) {i : Nat} (h : i + 1 < n) : thenL (adjT n i) p = swapAt p i := by
  have := runL_from p [(2 : Int) ^ i]
  rw [runL_pow p (by omega), runL_pow _ (by rw [iota_length]; omega), hp] at this
  exact this.symm
theorem adjT_pm {n i : Nat} (hn : n ≤ 1000) (h : i + 1 < n) : Pm n (adjT n i) := by
  have := runL_isPerm (n := n) [(2 : Int) ^ i] hn
  rw [runL_pow _ (by rw [iota_length]; omega)] at this
  exact ⟨this, by unfold adjT; rw [swapAt_length, iota_length]⟩
theorem swapAt_twice (p : List Int) {i : Nat} (h : i + 1 < p.length) : swapAt (swapAt p i) i = p := by
  refine ext_nth (by rw [swapAt_length, swapAt_length]) fun j hj => ?_
  rw [nth_swapAt _ _ _ (by rw [swapAt_length]; exact h), nth_swapAt _ _ _ h, nth_swapAt _ _ _ h, nth_swapAt _ _ _ h]
  by_cases h1 : j = i + 1
  · subst h1; simp
  · rw [if_neg h1]
    by_cases h2 : j = i
    · subst h2; simp
    · rw [if_neg h2, if_neg h1, if_neg h2]
theorem adjT_back {n i : Nat} (hn : n ≤ 1000) (h : i + 1 < n) : backL (adjT n i) = adjT n i := by
  have hp := adjT_pm hn h
  have h2 : thenL (adjT n i) (adjT n i) = iota n := by
    rw [adjT_then hp.2 h]
    unfold adjT
    rw [swapAt_twice _ (by rw [iota_length]; exact h)]
  have h3 := pm_assoc (c := adjT n i) hp.back hp
  rw [h2, pm_backmul hp, pm_onemul hp] at h3
  exact (pm_mulone hp.back).symm.trans h3.symm
theorem adjS_get {n k : Nat} (h : k + 1 < n) : (adjS n).getD k [] = adjT n k := by
  have hl : k < (adjS n).length := by rw [adjS_length]; omega
  rw [List.getD_eq_getElem?_getD, List.getElem?_eq_getElem hl]
  simp [adjS]
theorem adjS_pm {n : Nat} (hn : n ≤ 1000) : ∀ g ∈ adjS n, Pm n g := fun g hg => by
  obtain ⟨i, hi, rfl⟩ := List.mem_map.1 hg
  exact adjT_pm hn (by have := List.mem_range.1 hi; omega)
theorem okL_adj {n : Nat} {x : Int} (h : okL (adjS n) x) : x.natAbs - 1 + 1 < n := by
  have h1 := h.1; have h2 := h.2
  rw [adjS_length] at h2
  omega
theorem genL_adj {n : Nat} (hn : n ≤ 1000) {x : Int} (h : okL (adjS n) x) : genL (adjS n) x = adjT n (x.natAbs - 1) := by
  have := okL_adj h
  unfold genL
  rw [adjS_get this, adjT_back hn this]
  split <;> rfl
/-- The first letter ahead. -/
theorem valL_cons {n : Nat} {S : List (List Int)} (hn : n ≤ 1000) (hS : ∀ g ∈ S, Pm n g) {x : Int} (hx : okL S x) : ∀ (k : Nat) (W : List Int), W.length = k → (∀ y ∈ W, okL S y) → valL n S (x :: W) = thenL (genL S x) (valL n S W)
  | 0, W, h, _ => by
    obtain rfl := List.eq_nil_of_length_eq_zero h
    show thenL (iota n) (genL S x) = thenL (genL S x) (iota n)
    have hp := genL_pm hS hx
    rw [pm_onemul hp, pm_mulone hp]
  | k + 1, W, h, hW => by
    have hne : W ≠ [] := fun e => by rw [e] at h; cases h
    obtain ⟨V, y, rfl⟩ : ∃ V y, W = V ++ [y] := ⟨W.dropLast, W.getLast hne, (List.dropLast_concat_getLast hne).symm⟩
    have hV : ∀ z ∈ V, okL S z := fun z hz => hW z (List.mem_append_left _ hz)
    have ih := valL_cons hn hS hx k V (by simpa using h) hV
    rw [← List.cons_append, valL_snoc, ih, valL_snoc, pm_assoc (genL_pm hS hx) ((valL_gen V hV).pm hn hS)]
theorem val_adj {n : Nat} (hn : n ≤ 1000) {x : Int} (hx : okL (adjS n) x) {W : List Int} (hW : ∀ y ∈ W, okL (adjS n) y) : valL n (adjS n) (x :: W) = swapAt (valL n (adjS n) W) (x.natAbs - 1) := by
  rw [valL_cons hn (adjS_pm hn) hx _ W rfl hW, genL_adj hn hx, adjT_then ((valL_gen W hW).pm hn (adjS_pm hn)).2 (okL_adj hx)]
theorem asc_invR {l : List Int} (h : Asc l) : invR l = 0 := by
  induction l with
  | nil => rfl
  | cons a l ih =>
    have ha := List.pairwise_cons.1 h
    rw [invR, ih ha.2, less, List.filter_eq_nil_iff.2]
    · rfl
    · intro y hy; have := ha.1 y hy; simp; omega
theorem inv_val {n : Nat} (hn : n ≤ 1000) : ∀ (W : List Int), (∀ y ∈ W, okL (adjS n) y) → invR (valL n (adjS n) W) ≤ W.length
  | [], _ => by
    have : valL n (adjS n) [] = iota n := rfl
    rw [this, asc_invR (asc_iota n)]; exact Nat.zero_le _
  | x :: W, h => by
    have hW : ∀ y ∈ W, okL (adjS n) y := fun y hy => h y (List.mem_cons_of_mem _ hy)
    have hx := h x List.mem_cons_self
    have ih := inv_val hn W hW
    rw [val_adj hn hx hW, List.length_cons]
    have hl := ((valL_gen W hW).pm hn (adjS_pm hn)).2
    have := invR_swap (valL n (adjS n) W) (x.natAbs - 1) (by rw [hl]; exact okL_adj hx)
    split at this <;> split at this <;> omega
/-- A row without a falling pair is rounds. -/
theorem rises_iota {n : Nat} {p : List Int} (h : Pm n p) (hr : ∀ i, i + 1 < n → nth p i < nth p (i + 1)) : p = iota n := by
  have h1 : ∀ k, k < n → (k : Int) ≤ nth p k := by
    intro k
    induction k with
    | zero => intro hk; have := (h.rng hk).1; omega
    | succ k ih => intro hk; have := ih (by omega); have := hr k hk; omega
  have h2 : ∀ j k, k < n → j + k + 1 = n → nth p k ≤ (k : Int) := by
    intro j
    induction j with
    | zero => intro k hk e; have := (h.rng hk).2; omega
    | succ j ih =>
      intro k hk e
      have := ih (k + 1) (by omega) (by omega)
      have := hr k (by omega)
      omega
  refine ext_nth (by rw [h.2, iota_length]) fun k hk => ?_
  rw [h.2] at hk
  have := h1 k hk
  have := h2 (n - 1 - k) k hk (by omega)
  rw [nth_iota _ _ hk]; omega
theorem adj_word {n : Nat} (hn : n ≤ 1000) : ∀ (m : Nat) (p : List Int), Pm n p → invR p = m → ∃ W, (∀ y ∈ W, okL (adjS n) y) ∧ valL n (adjS n) W = p ∧ W.length = m
  | 0, p, hp, hm => by
    refine ⟨[], fun y hy => by simp at hy, ?_, rfl⟩
    show iota n = p
    refine (rises_iota hp fun i hi => ?_).symm
    have h1 := invR_swap p i (by rw [hp.2]; exact hi)
    have hne : nth p i ≠ nth p (i + 1) := fun e => by
      have := hp.1.inj (by rw [hp.2]; omega) (by rw [hp.2]; omega) e
      omega
    rw [hm] at h1
    split at h1 <;> split at h1 <;> omega
  | m + 1, p, hp, hm => by
    by_cases hd : ∃ i, i + 1 < n ∧ nth p (i + 1) < nth p i
    · obtain ⟨i, hi, hf⟩ := hd
      have h1 := invR_swap p i (by rw [hp.2]; exact hi)
      rw [if_pos hf, if_neg (by omega)] at h1
      have hq : Pm n (swapAt p i) := by rw [← adjT_then hp.2 hi]; exact (adjT_pm hn hi).mul hp
      obtain ⟨W, hW, hv, hl⟩ := adj_word hn m _ hq (by omega)
      have hx : okL (adjS n) ((i : Int) + 1) := ⟨by omega, by rw [adjS_length]; omega⟩
      refine ⟨((i : Int) + 1) :: W, fun y hy => ?_, ?_, by rw [List.length_cons, hl]⟩
      · rcases List.mem_cons.1 hy with rfl | hy
        · exact hx
        · exact hW y hy
      · rw [val_adj hn hx hW, hv, show ((i : Int) + 1).natAbs - 1 = i by omega, swapAt_twice _ (by rw [hp.2]; exact hi)]
    · exfalso
      have h2 := rises_iota hp fun i hi => by
        have hne : nth p i ≠ nth p (i + 1) := fun e => by
          have := hp.1.inj (by rw [hp.2]; omega) (by rw [hp.2]; omega) e
          omega
        have : ¬ nth p (i + 1) < nth p i := fun h => hd ⟨i, hi, h⟩
        omega
      rw [h2, asc_invR (asc_iota n)] at hm
      omega
theorem adj_gen {n : Nat} (hn : n ≤ 1000) {p : List Int} (hp : Pm n p) : Gen n (adjS n) p := by
  obtain ⟨W, hW, hv, _⟩ := adj_word hn _ p hp rfl
  rw [← hv]; exact valL_gen W hW
theorem adj_short {n : Nat} (hn : n ≤ 1000) {p : List Int} {W : List Int} (hp : Pm n p) (hW : ∀ y ∈ W, okL (adjS n) y) (hv : valL n (adjS n) W = p) (hs : ∀ W2, (∀ x ∈ W2, okL (adjS n) x) → valL n (adjS n) W2 = p → W.length ≤ W2.length) : W.length = invR p := by
  obtain ⟨V, hV, hv2, hl⟩ := adj_word hn _ p hp rfl
  have h1 := hs V hV hv2
  have h2 := inv_val hn W hW
  rw [hv] at h2
  omega
/-- The word rung from its end on. -/
def rungL (W : List Int) : List Int := W.reverse.map fun x => (2 : Int) ^ (x.natAbs - 1)
theorem rung_val {n : Nat} (hn : n ≤ 1000) : ∀ (W : List Int), (∀ y ∈ W, okL (adjS n) y) → runL (iota n) (rungL W) = valL n (adjS n) W
  | [], _ => rfl
  | x :: W, h => by
    have hW : ∀ y ∈ W, okL (adjS n) y := fun y hy => h y (List.mem_cons_of_mem _ hy)
    have hx := h x List.mem_cons_self
    have e : rungL (x :: W) = rungL W ++ [(2 : Int) ^ (x.natAbs - 1)] := by simp [rungL]
    have hl := ((valL_gen W hW).pm hn (adjS_pm hn)).2
    rw [e, runL_append, rung_val hn W hW, runL_pow _ (by rw [hl]; exact okL_adj hx), val_adj hn hx hW]
theorem unrank_ok : ∀ (f : Nat) (l : List Int) (r : Nat), Asc l → l.length = f → r < fact f → (unrankGo f l r).Perm l ∧ rk (unrankGo f l r) = r
  | 0, l, r, _, hl, hr => by
    obtain rfl := List.eq_nil_of_length_eq_zero hl
    have : r = 0 := by simp [fact] at hr; omega
    exact ⟨List.Perm.refl _, by rw [this]; rfl⟩
  | f + 1, l, r, h, hl, hr => by
    have hf := fact_pos f
    have hq : r / fact f < f + 1 := by
      rw [Nat.div_lt_iff_lt_mul hf]; rw [fact] at hr; exact hr
    have hm := Nat.mod_lt r hf
    obtain ⟨q, hqe⟩ : ∃ q, r / fact f = q := ⟨_, rfl⟩
    rw [hqe] at hq
    have hql : q < l.length := by omega
    obtain ⟨h1, h2⟩ := unrank_ok f (l.eraseIdx q) (r % fact f) (h.erase q) (by rw [List.length_eraseIdx_of_lt hql]; omega) hm
    have hlen : (unrankGo f (l.eraseIdx q) (r % fact f)).length = f := by rw [h1.length_eq, List.length_eraseIdx_of_lt hql]; omega
    have hp := erase_perm l q hql
    have hless : less (l.eraseIdx q) (nth l q) = q := by
      have h3 := less_nth h q hql
      rw [← less_perm hp, nth_lt hql, less_cons_self] at h3
      rw [nth_lt hql]; exact h3
    rw [unrankGo, hqe]
    refine ⟨?_, ?_⟩
    · rw [nth_lt hql]; exact (h1.cons _).trans hp
    · rw [rk, hlen, less_perm h1, hless, h2]
      have := Nat.div_add_mod r (fact f)
      rw [hqe, Nat.mul_comm] at this
      exact this
theorem adj_card {n k : Nat} (hn : n ≤ 1000) (hc : HasCard (Gen n (adjS n)) k) (hk : k ≤ fact n) : k = fact n := by
  obtain ⟨l, hd, hl, hm⟩ := hc
  refine Nat.le_antisymm hk ?_
  rw [← hl]
  have h1 : ((List.range (fact n)).map (unrankGo n (iota n))).Nodup := by
    rw [List.nodup_iff_pairwise_ne, List.pairwise_map]
    refine List.Pairwise.imp_of_mem ?_ List.nodup_range
    intro a b ha hb hne e
    have ha2 := (unrank_ok n (iota n) a (asc_iota n) (iota_length n) (List.mem_range.1 ha)).2
    have hb2 := (unrank_ok n (iota n) b (asc_iota n) (iota_length n) (List.mem_range.1 hb)).2
    rw [e, hb2] at ha2
    exact hne ha2.symm
  have h2 := nodup_lenP _ l h1 fun x hx => by
    obtain ⟨r, hr, rfl⟩ := List.mem_map.1 hx
    have h3 := (unrank_ok n (iota n) r (asc_iota n) (iota_length n) (List.mem_range.1 hr)).1
    have h4 := h3.length_eq
    rw [iota_length] at h4
    exact (hm _).2 (adj_gen hn ⟨⟨by rw [h4]; exact h3, by omega⟩, h4⟩)
  simpa using h2
end Go.Proofs.Ytplekfgadbjgdaa

namespace Go.Proofs.Ytplekfgadbjgdaa
open Go.RowKit Go.Sl

def nthv (vs : List Value) (i : Nat) : Value := vs.getD i undef
def nthr (xss : List (List Int)) (i : Nat) : List Int := xss.getD i []
theorem nthv_lt {vs : List Value} {i : Nat} (h : i < vs.length) : nthv vs i = vs[i] := by simp [nthv, h]
theorem nthr_lt {xss : List (List Int)} {i : Nat} (h : i < xss.length) : nthr xss i = xss[i] := by simp [nthr, h]
/-- The slice v of slices holds the values vs, which read as the lists xss. -/
def RowsV (w : World) (v : Value) (vs : List Value) (xss : List (List Int)) : Prop := Sl w v 1 vs ∧ vs.length = xss.length ∧ ∀ i, i < xss.length → Ints w (nthv vs i) (nthr xss i)
def Rows2 (w : World) (v : Value) (xss : List (List Int)) : Prop := ∃ vs, RowsV w v vs xss

section
variable {w w' : World} {v : Value} {vs : List Value} {xss : List (List Int)} {B : Nat}
theorem RowsV.isSl (h : RowsV w v vs xss) : IsSl v := h.1.1
theorem RowsV.len (h : RowsV w v vs xss) : vlen v = xss.length := by have := h.1.2.1; rw [h.2.1] at this; omega
theorem RowsV.cell (h : RowsV w v vs xss) {i : Nat} (hi : i < xss.length) : w.cell? (vat v i) = some (nthv vs i) := by
  have := Sl.cell h.1 (j := i) (by rw [h.2.1]; exact hi)
  rw [this, nthv_lt (by rw [h.2.1]; exact hi)]
theorem RowsV.row (h : RowsV w v vs xss) {i : Nat} (hi : i < xss.length) : Ints w (nthv vs i) (nthr xss i) := h.2.2 i hi
theorem RowsV.below (h : RowsV w v vs xss) (hb : Below w.heap.size w w') : RowsV w' v vs xss := ⟨h.1.below hb, h.2.1, fun i hi => (h.2.2 i hi).below hb⟩
theorem RowsV.alloc (h : RowsV w v vs xss) (o : Obj) : RowsV (w.alloc o) v vs xss := h.below ((Below.refl _ _).alloc (Nat.le_refl _) o)
theorem Rows2.isSl (h : Rows2 w v xss) : IsSl v := h.choose_spec.isSl
theorem Rows2.len (h : Rows2 w v xss) : vlen v = xss.length := h.choose_spec.len
theorem Rows2.below (h : Rows2 w v xss) (hb : Below w.heap.size w w') : Rows2 w' v xss := let ⟨vs, h⟩ := h; ⟨vs, h.below hb⟩
/-- The call's own slice of slices: its rows are read, it may be appended to. -/
def OwnR (w : World) (B : Nat) (v : Value) (xss : List (List Int)) : Prop := ∃ vs, Own w B 22 1 v vs ∧ vs.length = xss.length ∧ ∀ i, i < xss.length → Ints w (nthv vs i) (nthr xss i)
theorem OwnR.rows (h : OwnR w B v xss) : Rows2 w v xss := let ⟨vs, a, b, c⟩ := h; ⟨vs, a.sl, b, c⟩
theorem OwnR.isSl (h : OwnR w B v xss) : IsSl v := h.rows.isSl
theorem OwnR.len (h : OwnR w B v xss) : vlen v = xss.length := h.rows.len
theorem OwnR.lt (h : OwnR w B v xss) : ∀ k, row v = some k → B ≤ k ∧ k < w.heap.size := let ⟨_, a, _, _⟩ := h; a.lt
theorem OwnR.below (h : OwnR w B v xss) (hb : Below w.heap.size w w') : OwnR w' B v xss := let ⟨vs, a, b, c⟩ := h; ⟨vs, a.below hb, b, fun i hi => (c i hi).below hb⟩
theorem OwnR.low (h : OwnR w B v xss) {B' : Nat} (hB : B' ≤ B) : OwnR w B' v xss := let ⟨vs, a, b, c⟩ := h; ⟨vs, a.low hB, b, c⟩
/-- No row lies in the slice's own block. -/
def OwnR.apart (w : World) (B : Nat) (v : Value) (xss : List (List Int)) : Prop := ∃ vs, Own w B 22 1 v vs ∧ vs.length = xss.length ∧ (∀ i, i < xss.length → Ints w (nthv vs i) (nthr xss i)) ∧ ∀ i, i < xss.length → 0 < (nthr xss i).length → row v ≠ some (vblk (nthv vs i))
theorem OwnR.apart.own (h : OwnR.apart w B v xss) : OwnR w B v xss := let ⟨vs, a, b, c, _⟩ := h; ⟨vs, a, b, c⟩
theorem OwnR.apart.below (h : OwnR.apart w B v xss) (hb : Below w.heap.size w w') : OwnR.apart w' B v xss := let ⟨vs, a, b, c, d⟩ := h; ⟨vs, a.below hb, b, fun i hi => (c i hi).below hb, d⟩
theorem ownRA_nil (w : World) (B : Nat) : OwnR.apart w B (.slice none 0 0) [] := ⟨[], own_nil w B _ 1, rfl, fun i hi => absurd hi (by simp), fun i hi => absurd hi (by simp)⟩
end

theorem Ints.keep {w w' : World} {v : Value} {xs : List Int} (h : Ints w v xs) {r : Option Nat} (hg : w.grownBy w' r) (hr : 0 < xs.length → r ≠ some (vblk v)) : Ints w' v xs := by
  rcases Nat.eq_zero_or_pos xs.length with h0 | h0
  · obtain rfl := List.eq_nil_of_length_eq_zero h0
    exact ⟨h.1, h.2.1, by simp⟩
  · exact h.grown hg fun k hk e => hr h0 (by rw [hk, e])
theorem Ints.blk_lt {w : World} {v : Value} {xs : List Int} (h : Ints w v xs) (h0 : 0 < xs.length) : vblk v < w.heap.size := by
  have := World.block_lt_of_cell? w _ (h.cell h0); exact this

/-- append of one row. -/
theorem wpList_pushRow {w : World} {ops : Array Oper} {rest : List Oper} {o : Oper} {a : Act} {Q : Exit → Act → World → Prop} (hgd : o.guard = none) (s x : Operand)
    (ho : o.op = .call { callee := .builtin .append, args := #[s, x], argTypes := #[24, 24] })
    {B : Nat} {v r : Value} {xss : List (List Int)} {ys : List Int} (hs : a.eval s = v) (hx : a.eval x = .slice (some ⟨w.heap.size, 0, none⟩) 1 1) (hown : OwnR.apart w B v xss) (hy : Ints w r ys) (hB : B ≤ w.heap.size) (hlen : xss.length ≤ 1000000000000)
    (hap : 0 < ys.length → row v ≠ some (vblk r))
    (h : ∀ v' w', OwnR.apart w' B v' (xss ++ [ys]) → w.grownBy w' (row v) → (∀ k, row v' = some k → row v = some k ∨ w.heap.size ≤ k) → wpList Try.prog ops Q rest (a.put o.dst v') w') :
    wpList Try.prog ops Q (o :: rest) a (w.alloc (.cells #[r] 22)) := by
  obtain ⟨i, hi, hz0, hz1, hz2⟩ := info_parts info_slice
  have hl : vlen v = xss.length := hown.own.len
  obtain ⟨vs, ha, hvl, hrows, hapr⟩ := hown
  refine wpList_append_sl hgd s x _ ho B 22 i _ 1 24 Try.underlying24 hi hz0 hz1 hz2 rfl (by decide) hs hx (Own.alloc ha _) (sl_one w r 22)
    (by intro u hu; simp at hu; subst hu; exact oneCell'_sl hy.1) (by simp only [vlen_mk, hl, maxLen]; omega) (by simp only [vlen_mk, hl]; omega) (by simp; omega) ?_
  intro v' w' h1 h2 h3
  have hg : w.grownBy w' (row v) := ⟨h2.os, h2.tape, h2.output, by have := h2.size; simp at this; omega, fun k hk hr => (h2.block k (by simp; omega) hr).trans (Below.heap_alloc w _ k hk)⟩
  have hfr : ∀ k, row v' = some k → row v = some k ∨ w.heap.size ≤ k := by
    intro k hk; rcases h3 k hk with h | h
    · exact .inl h
    · exact .inr (by simp at h; omega)
  have hnv : ∀ i, i < xss.length → nthv (vs ++ [r]) i = nthv vs i ∧ nthr (xss ++ [ys]) i = nthr xss i := by
    intro i hi
    simp [nthv, nthr, List.getElem?_append, hvl, hi]
  have hlast : nthv (vs ++ [r]) xss.length = r ∧ nthr (xss ++ [ys]) xss.length = ys := by
    simp [nthv, nthr, hvl]
  refine h v' w' ⟨vs ++ [r], h1, by simp [hvl], fun i hi => ?_, fun i hi h0 => ?_⟩ hg hfr
  · simp only [List.length_append, List.length_cons, List.length_nil] at hi
    rcases Nat.lt_or_ge i xss.length with hlt | hge
    · rw [(hnv i hlt).1, (hnv i hlt).2]
      exact (hrows i hlt).keep hg (hapr i hlt)
    · obtain rfl : i = xss.length := by omega
      rw [hlast.1, hlast.2]
      exact hy.keep hg hap
  · simp only [List.length_append, List.length_cons, List.length_nil] at hi
    intro e
    rcases Nat.lt_or_ge i xss.length with hlt | hge
    · rw [(hnv i hlt).2] at h0
      rw [(hnv i hlt).1] at e
      rcases hfr _ e with h4 | h4
      · exact hapr i hlt h0 h4
      · have := (hrows i hlt).blk_lt h0; omega
    · obtain rfl : i = xss.length := by omega
      rw [hlast.2] at h0
      rw [hlast.1] at e
      rcases hfr _ e with h4 | h4
      · exact hap h0 h4
      · have := hy.blk_lt h0; omega

end Go.Proofs.Ytplekfgadbjgdaa

namespace Go.Proofs.Ytplekfgadbjgdaa
open Go.RowKit Go.Sl

/-- One letter onto the stack (its top is the list's head). -/
def psh (s : List Int) (x : Int) : List Int :=
  match s with
  | [] => [x]
  | y :: t => if y = -x then t else x :: y :: t
def act (s xs : List Int) : List Int := xs.foldl psh s
end Go.Proofs.Ytplekfgadbjgdaa

namespace Go.Proofs.Ytplekfgadbjgdaa
open Go.ChangeShapes Go.WideShapes Go.ChangeAt Go.RowKit Go.Sl

theorem own_knob : ownKnob Try.prog.godebug = none := by kernel_rfl
theorem laid_out : laidOutB Try.prog = true := by kernel_rfl
theorem cells_int : Try.prog.cellsOf 3 = 1 := by kernel_rfl

theorem wf_bounds {n : Int} (h : (Lit.int .i64 n).wf = true) : I64 n := by
  have h1 : IntKind.i64.min = -9223372036854775808 := rfl
  have h2 : IntKind.i64.max = 9223372036854775807 := rfl
  simp only [Lit.wf, Bool.and_eq_true, decide_eq_true_eq] at h
  unfold I64
  omega

set_option maxRecDepth 100000 in
theorem arg_int {H : Type} {enc : TypeId × Value → H} {W : World} {base b0 : Nat} {v : Value} {d : DataW H} {ps : List MemPlace} (hv : Value.okWide Try.prog W .any base 3 v)
    (h : DataW.Trod enc Try.prog W b0 (fun _ => true) true 3 v d ps) : ∃ n : Int, v = .int .i64 n ∧ I64 n := by
  obtain ⟨n, rfl, _, _, wn⟩ := open_int Try.underlying3 hv h
  exact ⟨n, rfl, wf_bounds wn⟩

set_option maxRecDepth 100000 in
theorem arg_ints {H : Type} {enc : TypeId × Value → H} {W : World} {base b0 : Nat} {v : Value} {d : DataW H} {ps : List MemPlace} (hv : Value.okWide Try.prog W .any base 22 v)
    (h : DataW.Trod enc Try.prog W b0 (fun _ => true) true 22 v d ps) : ∃ xs : List Int, Ints W v xs ∧ ∀ x ∈ xs, I64 x := by
  obtain ⟨a0, len, cap, rfl⟩ := okWide_slice Try.underlying22 hv
  obtain ⟨fuel, hf⟩ := h
  rcases open_ints Try.underlying22 Try.underlying3 cells_int hf with ⟨hcs, hx⟩ | ⟨a, len', cap', zs, hcs, _, hl, hm, hz, hx, hcell, hwz⟩
  · simp [Value.cells] at hcs
    obtain ⟨rfl, rfl, rfl⟩ := hcs
    exact ⟨[], ints_nil W, by simp⟩
  · simp [Value.cells] at hcs
    obtain ⟨rfl, rfl, rfl⟩ := hcs
    simp only [if_true] at hz
    refine ⟨zs.take len, ⟨⟨rfl, hl, hm, fun h0 => ?_⟩, by simp; omega, fun j u hu => ?_⟩, fun x hx => wf_bounds (hwz x (List.mem_of_mem_take hx))⟩
    · simp only [vcap_mk] at h0
      obtain ⟨b, off, spot⟩ := a
      have hspot : spot = none := by simpa [Addr.add] using World.cell?_spot (hcell 0 (by omega))
      subst hspot
      rfl
    · have hj : j < len := by
        have := (List.getElem?_eq_some_iff.1 hu).1
        simp at this; omega
      obtain ⟨b, off, spot⟩ := a
      have hspot : spot = none := by simpa [Addr.add] using World.cell?_spot (hcell 0 (by omega))
      subst hspot
      have h1 := hcell j (by omega)
      rw [Addr.add_lit] at h1
      rw [vat_mk, h1]
      rw [List.map_take, List.getElem?_take, if_pos hj] at hu
      simp at hu
      obtain ⟨a, ha, rfl⟩ := hu
      simp [List.getD, ha]

end Go.Proofs.Ytplekfgadbjgdaa


/- Arguments as data: what a slice of slices of ints that came in reads as. -/
import Derived.Test.YtplekfgadbjgdaaQGroupOrbitStabilizer0
import Derived.Test.YtplekfgadbjgdaaQGroupOrbitStabilizer1
import Derived.Test.YtplekfgadbjgdaaQGroupOrbitStabilizer2
import Derived.ProofKit
import Derived.OpenShut
import Derived.Deep.Slices
namespace Go.Proofs.Ytplekfgadbjgdaa
open Go.RowKit Go.Sl

def iota (n : Nat) : List Int := (List.range n).map Int.ofNat
theorem iota_length (n : Nat) : (iota n).length = n := by simp [iota]
theorem nth_iota (n k : Nat) (h : k < n) : nth (iota n) k = k := by rw [nth_lt (by rw [iota_length]; exact h)]; simp [iota]
theorem mem_iota {n : Nat} {x : Int} : x ∈ iota n ↔ 0 ≤ x ∧ x < n := by
  simp only [iota, List.mem_map, List.mem_range]
  constructor
  · rintro ⟨a, h, rfl⟩; simp; omega
  · rintro ⟨h1, h2⟩; exact ⟨x.toNat, by omega, by simp; omega⟩
theorem iota_nodup (n : Nat) : (iota n).Nodup := by
  unfold iota
  rw [List.nodup_iff_pairwise_ne] at *
  rw [List.pairwise_map]
  refine List.Pairwise.imp ?_ List.nodup_range
  intro a b h e
  exact h (Int.ofNat.inj e)
theorem ext_nth {xs ys : List Int} (hl : xs.length = ys.length) (h : ∀ k, k < xs.length → nth xs k = nth ys k) : xs = ys := by
  apply List.ext_getElem hl
  intro j h1 h2
  have := h j h1
  rwa [nth_lt h1, nth_lt h2] at this

def thenL (a b : List Int) : List Int := a.map fun x => nth b x.toNat
theorem thenL_length (a b : List Int) : (thenL a b).length = a.length := by simp [thenL]
theorem nth_thenL (a b : List Int) (k : Nat) (h : k < a.length) : nth (thenL a b) k = nth b (nth a k).toNat := by
  rw [nth_lt (by rw [thenL_length]; exact h)]; simp [thenL, nth_lt h]

/-- A permutation of small degree, as a list. -/
structure IsPerm (xs : List Int) : Prop where
  perm : xs.Perm (iota xs.length)
  small : xs.length ≤ 1000
theorem IsPerm.range {xs : List Int} (h : IsPerm xs) : ∀ x ∈ xs, 0 ≤ x ∧ x < xs.length := fun _ hx => mem_iota.1 (h.perm.mem_iff.1 hx)
theorem IsPerm.nodup {xs : List Int} (h : IsPerm xs) : xs.Nodup := h.perm.nodup_iff.2 (iota_nodup _)
theorem IsPerm.hit {xs : List Int} (h : IsPerm xs) {k : Nat} (hk : k < xs.length) : ∃ j, j < xs.length ∧ nth xs j = k := by
  have : (k : Int) ∈ xs := h.perm.mem_iff.2 (mem_iota.2 ⟨by omega, by omega⟩)
  obtain ⟨j, hj, he⟩ := List.getElem_of_mem this
  exact ⟨j, hj, by rw [nth_lt hj]; exact he⟩
theorem isPerm_iota {n : Nat} (h : n ≤ 1000) : IsPerm (iota n) := ⟨by rw [iota_length], by rw [iota_length]; exact h⟩

theorem thenL_iota (b : List Int) : thenL (iota b.length) b = b := by
  apply ext_nth (by rw [thenL_length, iota_length])
  intro k hk
  rw [thenL_length, iota_length] at hk
  rw [nth_thenL _ _ _ (by rw [iota_length]; exact hk), nth_iota _ _ hk]; simp
theorem iota_thenL {a : List Int} (h : ∀ x ∈ a, 0 ≤ x ∧ x < a.length) : thenL a (iota a.length) = a := by
  apply ext_nth (by rw [thenL_length])
  intro k hk
  rw [thenL_length] at hk
  have := h _ (nth_mem hk)
  rw [nth_thenL _ _ _ hk, nth_iota _ _ (by omega)]; omega
theorem thenL_assoc {a b c : List Int} (h : ∀ x ∈ a, 0 ≤ x ∧ x < b.length) : thenL (thenL a b) c = thenL a (thenL b c) := by
  apply ext_nth (by simp [thenL_length])
  intro k hk
  simp only [thenL_length] at hk
  have := h _ (nth_mem hk)
  rw [nth_thenL _ _ _ (by rw [thenL_length]; exact hk), nth_thenL _ _ _ hk, nth_thenL _ _ _ hk, nth_thenL _ _ _ (by omega)]
theorem IsPerm.then {a b : List Int} (ha : IsPerm a) (hb : IsPerm b) (hl : a.length = b.length) : IsPerm (thenL a b) := by
  refine ⟨?_, by rw [thenL_length]; exact ha.small⟩
  rw [thenL_length, hl]
  have h1 : (thenL a b).Perm (thenL (iota a.length) b) := ha.perm.map _
  rw [hl, thenL_iota] at h1
  exact h1.trans hb.perm

/-- The first k numbers of a permutation written at their places. -/
def backTo (xs : List Int) (k : Nat) : List Int := (List.range k).foldl (fun acc i => acc.set (nth xs i).toNat i) (List.replicate xs.length 0)
def backL (xs : List Int) : List Int := backTo xs xs.length
theorem backTo_zero (xs : List Int) : backTo xs 0 = List.replicate xs.length 0 := rfl
theorem backTo_succ (xs : List Int) (k : Nat) : backTo xs (k + 1) = (backTo xs k).set (nth xs k).toNat k := by
  simp [backTo, List.range_succ]
theorem backTo_length (xs : List Int) (k : Nat) : (backTo xs k).length = xs.length := by
  induction k with
  | zero => simp [backTo]
  | succ k ih => rw [backTo_succ]; simp [ih]
theorem backL_length (xs : List Int) : (backL xs).length = xs.length := backTo_length _ _
theorem nth_set_same {xs : List Int} {k : Nat} (x : Int) (h : k < xs.length) : nth (xs.set k x) k = x := by
  rw [nth_lt (by simpa using h)]; simp
theorem nth_set_other {xs : List Int} {k j : Nat} (x : Int) (h : k ≠ j) : nth (xs.set k x) j = nth xs j := by
  simp [nth, List.getElem?_set_ne h]
theorem IsPerm.inj {xs : List Int} (h : IsPerm xs) {i j : Nat} (hi : i < xs.length) (hj : j < xs.length) (e : nth xs i = nth xs j) : i = j := by
  rw [nth_lt hi, nth_lt hj] at e
  exact (List.getElem_inj h.nodup).1 e
theorem backTo_hit {xs : List Int} (h : IsPerm xs) (k : Nat) (hk : k ≤ xs.length) : ∀ j, j < k → nth (backTo xs k) (nth xs j).toNat = j := by
  induction k with
  | zero => intro j hj; omega
  | succ k ih =>
    intro j hj
    have hrk := h.range _ (nth_mem (xs := xs) (k := k) (by omega))
    rw [backTo_succ]
    rcases Nat.lt_or_ge j k with h1 | h1
    · have hrj := h.range _ (nth_mem (xs := xs) (k := j) (by omega))
      rw [nth_set_other _ (fun e => by
        have := h.inj (i := k) (j := j) (by omega) (by omega) (by omega)
        omega)]
      exact ih (by omega) j h1
    · have e : j = k := by omega
      subst e
      rw [nth_set_same _ (by rw [backTo_length]; omega)]
theorem then_back {xs : List Int} (h : IsPerm xs) : thenL xs (backL xs) = iota xs.length := by
  apply ext_nth (by rw [thenL_length, iota_length])
  intro k hk
  rw [thenL_length] at hk
  rw [nth_thenL _ _ _ hk, nth_iota _ _ hk]
  exact backTo_hit h _ (Nat.le_refl _) k hk
theorem back_then {xs : List Int} (h : IsPerm xs) : thenL (backL xs) xs = iota xs.length := by
  apply ext_nth (by rw [thenL_length, iota_length, backL_length])
  intro k hk
  rw [thenL_length, backL_length] at hk
  rw [nth_thenL _ _ _ (by rw [backL_length]; exact hk), nth_iota _ _ hk]
  obtain ⟨j, hj, he⟩ := h.hit hk
  have := backTo_hit h _ (Nat.le_refl _) j hj
  rw [he] at this
  simp only [Int.toNat_natCast] at this
  unfold backL
  rw [this, Int.toNat_natCast, he]
theorem IsPerm.back {xs : List Int} (h : IsPerm xs) : IsPerm (backL xs) := by
  refine ⟨?_, by rw [backL_length]; exact h.small⟩
  have h1 : (thenL xs (backL xs)).Perm (thenL (iota xs.length) (backL xs)) := h.perm.map _
  rw [then_back h] at h1
  have h2 := thenL_iota (backL xs)
  rw [backL_length] at h2 ⊢
  rw [h2] at h1
  exact h1.symm

/-! ### The maker of permutations -/
def pick (raw rest : List Int) : Nat := match raw with
  | [] => 0
  | x :: _ => (x % rest.length).toNat
def permGo : Nat → List Int → List Int → List Int
  | 0, _, _ => []
  | f + 1, raw, rest => nth rest (pick raw rest) :: permGo f raw.tail (rest.eraseIdx (pick raw rest))
def permL (n : Nat) (raw : List Int) : List Int := permGo n raw (iota n)
theorem pick_lt (raw rest : List Int) (h : 0 < rest.length) : pick raw rest < rest.length := by
  unfold pick
  split
  · exact h
  · rename_i x _
    have h1 := Int.emod_nonneg x (b := (rest.length : Int)) (by omega)
    have h2 := Int.emod_lt_of_pos x (b := (rest.length : Int)) (by omega)
    omega
theorem erase_perm (l : List Int) (i : Nat) (h : i < l.length) : (l[i] :: l.eraseIdx i).Perm l := by
  rw [List.eraseIdx_eq_take_drop_succ]
  have e : l = l.take i ++ l[i] :: l.drop (i + 1) := by rw [← List.drop_eq_getElem_cons h, List.take_append_drop]
  conv => rhs; rw [e]
  exact List.perm_middle.symm
theorem permGo_perm (f : Nat) : ∀ raw rest, rest.length = f → (permGo f raw rest).Perm rest := by
  induction f with
  | zero => intro raw rest h; rw [List.length_eq_zero_iff.1 h]; exact List.Perm.refl _
  | succ f ih =>
    intro raw rest h
    have hp := pick_lt raw rest (by omega)
    have h1 := ih raw.tail (rest.eraseIdx (pick raw rest)) (by rw [List.length_eraseIdx]; split <;> omega)
    rw [permGo, nth_lt hp]
    exact (h1.cons _).trans (erase_perm _ _ hp)
theorem permL_length (n : Nat) (raw : List Int) : (permL n raw).length = n := by
  have := (permGo_perm n raw (iota n) (iota_length n)).length_eq
  rw [iota_length] at this; exact this
theorem permL_isPerm {n : Nat} (raw : List Int) (h : n ≤ 1000) : IsPerm (permL n raw) :=
  ⟨by rw [permL_length]; exact permGo_perm n raw (iota n) (iota_length n), by rw [permL_length]; exact h⟩
end Go.Proofs.Ytplekfgadbjgdaa

namespace Go.Proofs.Ytplekfgadbjgdaa
open Go.RowKit Go.Sl

/-- A permutation of degree n. -/
def Pm (n : Nat) (p : List Int) : Prop := IsPerm p ∧ p.length = n
section
variable {n : Nat} {a b c p q u : List Int}
theorem Pm.small (h : Pm n p) : n ≤ 1000 := by rw [← h.2]; exact h.1.small
theorem Pm.rng (h : Pm n p) {k : Nat} (hk : k < n) : 0 ≤ nth p k ∧ nth p k < n := by
  have := h.1.range _ (nth_mem (show k < p.length by rw [h.2]; exact hk))
  rwa [h.2] at this
theorem pm_one (h : n ≤ 1000) : Pm n (iota n) := ⟨isPerm_iota h, iota_length n⟩
theorem Pm.mul (ha : Pm n a) (hb : Pm n b) : Pm n (thenL a b) := ⟨ha.1.then hb.1 (by rw [ha.2, hb.2]), by rw [thenL_length, ha.2]⟩
theorem Pm.back (ha : Pm n a) : Pm n (backL a) := ⟨ha.1.back, by rw [backL_length, ha.2]⟩
theorem Pm.at (ha : Pm n a) {k : Nat} (hk : k < n) : nth (thenL a b) k = nth b (nth a k).toNat := nth_thenL _ _ _ (by rw [ha.2]; exact hk)
theorem pm_assoc (ha : Pm n a) (hb : Pm n b) : thenL (thenL a b) c = thenL a (thenL b c) := thenL_assoc fun x hx => by
  have := ha.1.range x hx
  rw [ha.2] at this; rwa [hb.2]
theorem pm_onemul (ha : Pm n a) : thenL (iota n) a = a := by rw [← ha.2]; exact thenL_iota a
theorem pm_mulone (ha : Pm n a) : thenL a (iota n) = a := by
  have := iota_thenL ha.1.range
  rwa [ha.2] at this
theorem pm_mulback (ha : Pm n a) : thenL a (backL a) = iota n := by rw [then_back ha.1, ha.2]
theorem pm_backmul (ha : Pm n a) : thenL (backL a) a = iota n := by rw [back_then ha.1, ha.2]
theorem pm_cancel (ha : Pm n a) (hb : Pm n b) (hc : Pm n c) (h : thenL a c = thenL b c) : a = b := by
  have h1 := congrArg (fun x => thenL x (backL c)) h
  rwa [pm_assoc ha hc, pm_assoc hb hc, pm_mulback hc, pm_mulone ha, pm_mulone hb] at h1
theorem pm_tomul (ha : Pm n a) (hb : Pm n b) : thenL (thenL a (backL b)) b = a := by
  rw [pm_assoc ha hb.back, pm_backmul hb, pm_mulone ha]
theorem pm_back2 (ha : Pm n a) (hb : Pm n b) : backL (thenL a b) = thenL (backL b) (backL a) := by
  refine pm_cancel (ha.mul hb).back (hb.back.mul ha.back) (ha.mul hb) ?_
  rw [pm_backmul (ha.mul hb), pm_assoc hb.back ha.back, ← pm_assoc ha.back ha, pm_backmul ha, pm_onemul hb, pm_backmul hb]
theorem pm_backback (ha : Pm n a) : backL (backL a) = a := by
  refine pm_cancel ha.back.back ha ha.back ?_
  rw [pm_backmul ha.back, pm_mulback ha]
theorem pm_ext (ha : Pm n a) (hb : Pm n b) (h : ∀ k, k < n → nth a k = nth b k) : a = b := ext_nth (by rw [ha.2, hb.2]) fun k hk => h k (by rwa [ha.2] at hk)
theorem pm_inj (ha : Pm n a) {i j : Nat} (hi : i < n) (hj : j < n) (e : nth a i = nth a j) : i = j := ha.1.inj (by rw [ha.2]; exact hi) (by rw [ha.2]; exact hj) e
/-- The place stays. -/
def Fixes (p : List Int) (x : Nat) : Prop := nth p x = (x : Int)
theorem fix_one {x : Nat} (h : x < n) : Fixes (iota n) x := nth_iota n x h
theorem Fixes.mul (ha : Pm n a) {x : Nat} (hx : x < n) (h1 : Fixes a x) (h2 : Fixes b x) : Fixes (thenL a b) x := by
  unfold Fixes at *
  rw [ha.at hx, h1]; exact h2
theorem Fixes.back (ha : Pm n a) {x : Nat} (hx : x < n) (h : Fixes a x) : Fixes (backL a) x := by
  unfold Fixes at *
  have h1 := congrArg (fun l => nth l x) (pm_mulback ha)
  rw [ha.at hx, h, nth_iota _ _ hx] at h1
  simpa using h1
end

/-- What generators make. -/
inductive Gen (n : Nat) (S : List (List Int)) : List Int → Prop
  | one : Gen n S (iota n)
  | mul {p g : List Int} : Gen n S p → g ∈ S → Gen n S (thenL p g)
  | inv {p g : List Int} : Gen n S p → g ∈ S → Gen n S (thenL p (backL g))
section
variable {n : Nat} {S T : List (List Int)} {p q : List Int}
theorem Gen.pm (hn : n ≤ 1000) (hS : ∀ g ∈ S, Pm n g) (h : Gen n S p) : Pm n p := by
  induction h with
  | one => exact pm_one hn
  | mul _ hg ih => exact ih.mul (hS _ hg)
  | inv _ hg ih => exact ih.mul (hS _ hg).back
theorem Gen.prod (hn : n ≤ 1000) (hS : ∀ g ∈ S, Pm n g) (hp : Gen n S p) (h : Gen n S q) : Gen n S (thenL p q) := by
  induction h with
  | one => rw [pm_mulone (hp.pm hn hS)]; exact hp
  | mul h2 hg ih => rw [← pm_assoc (hp.pm hn hS) (h2.pm hn hS)]; exact ih.mul hg
  | inv h2 hg ih => rw [← pm_assoc (hp.pm hn hS) (h2.pm hn hS)]; exact ih.inv hg
theorem Gen.of (hS : ∀ g ∈ S, Pm n g) {g : List Int} (h : g ∈ S) : Gen n S g := by
  have := Gen.mul (n := n) (S := S) .one h
  rwa [pm_onemul (hS g h)] at this
theorem Gen.ofBack (hS : ∀ g ∈ S, Pm n g) {g : List Int} (h : g ∈ S) : Gen n S (backL g) := by
  have := Gen.inv (n := n) (S := S) .one h
  rwa [pm_onemul (hS g h).back] at this
theorem Gen.back (hn : n ≤ 1000) (hS : ∀ g ∈ S, Pm n g) (h : Gen n S p) : Gen n S (backL p) := by
  induction h with
  | one =>
    have : backL (iota n) = iota n := by
      have h1 := pm_mulback (pm_one hn)
      rwa [pm_onemul (pm_one hn).back] at h1
    rw [this]; exact .one
  | mul h2 hg ih => rw [pm_back2 (h2.pm hn hS) (hS _ hg)]; exact Gen.prod hn hS (Gen.ofBack hS hg) ih
  | inv h2 hg ih => rw [pm_back2 (h2.pm hn hS) (hS _ hg).back, pm_backback (hS _ hg)]; exact Gen.prod hn hS (Gen.of hS hg) ih
theorem Gen.sub (hn : n ≤ 1000) (hT : ∀ g ∈ T, Pm n g) (hST : ∀ g ∈ S, Gen n T g) (h : Gen n S p) : Gen n T p := by
  induction h with
  | one => exact .one
  | mul _ hg ih => exact Gen.prod hn hT ih (hST _ hg)
  | inv _ hg ih => exact Gen.prod hn hT ih ((hST _ hg).back hn hT)
theorem Gen.nil (h : Gen n [] p) : p = iota n := by
  cases h with
  | one => rfl
  | mul _ hg => cases hg
  | inv _ hg => cases hg
theorem Gen.fix (hn : n ≤ 1000) (hS : ∀ g ∈ S, Pm n g) {x : Nat} (hx : x < n) (hf : ∀ g ∈ S, Fixes g x) (h : Gen n S p) : Fixes p x := by
  induction h with
  | one => exact fix_one hx
  | mul h2 hg ih => exact Fixes.mul (h2.pm hn hS) hx ih (hf _ hg)
  | inv h2 hg ih => exact Fixes.mul (h2.pm hn hS) hx ih (Fixes.back (hS _ hg) hx (hf _ hg))
end

theorem pigP : ∀ (X J : List Nat), X.Nodup → (∀ x ∈ X, x ∈ J) → J.length = X.length → J.Perm X := by
  intro X
  induction X with
  | nil => intro J _ _ hl; rw [List.length_eq_zero_iff.1 hl]
  | cons x X ih =>
    intro J hn hs hl
    have hx := hs x (by simp)
    have h1 := List.perm_cons_erase hx
    refine h1.trans (List.Perm.cons x (ih (J.erase x) (List.nodup_cons.1 hn).2 (fun y hy => ?_) (by rw [List.length_erase_of_mem hx, hl]; simp)))
    have hne : y ≠ x := fun e => (List.nodup_cons.1 hn).1 (e ▸ hy)
    exact (List.mem_erase_of_ne hne).2 (hs y (List.mem_cons_of_mem _ hy))

/-- A level of the chain: generators, the elements that were reached, the points in the order in which they were found. -/
structure Lv where
  gs : List (List Int)
  rc : Nat → Option (List Int)
  od : List Nat
structure LvG (n j : Nat) (L : Lv) : Prop where
  gpm : ∀ g ∈ L.gs, Pm n g
  gfix : ∀ g ∈ L.gs, ∀ x, x < j → Fixes g x
  base : L.rc j = some (iota n)
  rcs : ∀ x u, L.rc x = some u → x < n ∧ nth u j = (x : Int) ∧ Gen n L.gs u
  odm : ∀ x, x ∈ L.od ↔ L.rc x ≠ none
  odn : L.od.Nodup
/-- All products of a level lead on to the next one. -/
def Done (n j : Nat) (L : Lv) (T : List (List Int)) : Prop := ∀ x u g, L.rc x = some u → g ∈ L.gs → ∃ w, L.rc (nth (thenL u g) j).toNat = some w ∧ Gen n T (thenL (thenL u g) (backL w))
section
variable {n j : Nat} {L : Lv} {T : List (List Int)} {p : List Int}
theorem LvG.pm (h : LvG n j L) (hn : n ≤ 1000) {x : Nat} {u : List Int} (hu : L.rc x = some u) : Pm n u := (h.rcs x u hu).2.2.pm hn h.gpm
/-- Where a generator leads the points that were reached: all of them are led to. -/
theorem done_onto (h : LvG n j L) (hn : n ≤ 1000) (hj : j < n) (hd : Done n j L T) {g : List Int} (hg : g ∈ L.gs) {x : Nat} (hx : x ∈ L.od) : ∃ y, y ∈ L.od ∧ nth g y = (x : Int) := by
  have hG := h.gpm g hg
  have hin : ∀ y ∈ L.od, y < n ∧ (nth g y).toNat ∈ L.od := fun y hy => by
    obtain ⟨u, hu⟩ := Option.ne_none_iff_exists'.1 ((h.odm y).1 hy)
    obtain ⟨h1, h2, h3⟩ := h.rcs y u hu
    obtain ⟨w, hw, -⟩ := hd y u g hu hg
    have hU := h.pm hn hu
    rw [hU.at hj, h2] at hw
    refine ⟨h1, (h.odm _).2 ?_⟩
    simp only [Int.toNat_natCast] at hw
    rw [hw]; simp
  have hnd : (L.od.map fun y => (nth g y).toNat).Nodup := by
    refine List.pairwise_map.2 (List.pairwise_iff_forall_sublist.2 fun {a b} hs => ?_)
    intro e
    have ha := (hin a (hs.subset (by simp))).1
    have hb := (hin b (hs.subset (by simp))).1
    have r1 := hG.rng ha
    have r2 := hG.rng hb
    have := pm_inj hG ha hb (by omega)
    have hne : a ≠ b := (List.pairwise_iff_forall_sublist.1 h.odn) hs
    exact hne this
  have hp := pigP (L.od.map fun y => (nth g y).toNat) L.od hnd (fun z hz => by
    obtain ⟨y, hy, rfl⟩ := List.mem_map.1 hz
    exact (hin y hy).2) (by simp)
  obtain ⟨y, hy, e⟩ := List.mem_map.1 (hp.mem_iff.1 hx)
  refine ⟨y, hy, ?_⟩
  have := hG.rng (hin y hy).1
  omega
/-- SCHREIER: what the generators of a level make is what the next level makes, times the elements that were reached. -/
theorem schreier (h : LvG n j L) (hn : n ≤ 1000) (hj : j < n) (hT : ∀ t ∈ T, Pm n t) (_hTf : ∀ t ∈ T, Fixes t j) (hd : Done n j L T) (hp : Gen n L.gs p) : ∃ w, L.rc (nth p j).toNat = some w ∧ Gen n T (thenL p (backL w)) := by
  have hone := pm_one hn
  induction hp with
  | one =>
    refine ⟨iota n, ?_, ?_⟩
    · rw [nth_iota n j hj]; exact h.base
    · rw [pm_mulback hone]; exact .one
  | @mul p g hp hg ih =>
    obtain ⟨w, hw, hH⟩ := ih
    have hP := hp.pm hn h.gpm
    have hW := h.pm hn hw
    have hG := h.gpm g hg
    obtain ⟨w', hw', hH'⟩ := hd _ w g hw hg
    have hW' := h.pm hn hw'
    have e1 : nth (thenL p g) j = nth (thenL w g) j := by
      rw [hP.at hj, hW.at hj]
      have := (h.rcs _ w hw).2.1
      rw [this, Int.toNat_natCast]
    refine ⟨w', by rw [e1]; exact hw', ?_⟩
    have e2 : thenL (thenL p g) (backL w') = thenL (thenL p (backL w)) (thenL (thenL w g) (backL w')) := by
      rw [← pm_assoc (hP.mul hW.back) (hW.mul hG), ← pm_assoc (hP.mul hW.back) hW, pm_tomul hP hW]
    rw [e2]
    exact Gen.prod hn hT hH hH'
  | @inv p g hp hg ih =>
    obtain ⟨w, hw, hH⟩ := ih
    have hP := hp.pm hn h.gpm
    have hW := h.pm hn hw
    have hG := h.gpm g hg
    have hx : (nth p j).toNat ∈ L.od := (h.odm _).2 (by rw [hw]; simp)
    obtain ⟨y, hy, hgy⟩ := done_onto h hn hj hd hg hx
    obtain ⟨v, hv⟩ := Option.ne_none_iff_exists'.1 ((h.odm y).1 hy)
    have hV := h.pm hn hv
    obtain ⟨w2, hw2, hH2⟩ := hd y v g hv hg
    have hyn := (h.rcs y v hv).1
    have hvj := (h.rcs y v hv).2.1
    have e0 : nth (thenL v g) j = ((nth p j).toNat : Int) := by rw [hV.at hj, hvj]; simpa using hgy
    rw [e0, Int.toNat_natCast, hw] at hw2
    obtain rfl := Option.some.inj hw2
    have hWj := (h.rcs _ w hw).2.1
    have e1 : nth (thenL p (backL g)) j = (y : Int) := by
      rw [hP.at hj]
      have h1 := congrArg (fun l => nth l y) (pm_mulback hG)
      rw [hG.at hyn, hgy, Int.toNat_natCast] at h1
      rw [h1]; exact nth_iota n y hyn
    refine ⟨v, by rw [e1, Int.toNat_natCast]; exact hv, ?_⟩
    -- p g^-1 v^-1 = (p w^-1) (v g w^-1)^-1
    have e2 : thenL (thenL p (backL g)) (backL v) = thenL (thenL p (backL w)) (backL (thenL (thenL v g) (backL w))) := by
      rw [pm_back2 (hV.mul hG) hW.back, pm_backback hW, pm_back2 hV hG, ← pm_assoc (hP.mul hW.back) hW, pm_tomul hP hW, ← pm_assoc hP hG.back]
    rw [e2]
    exact Gen.prod hn hT hH (hH2.back hn hT)
end

/-! ### How many there are -/
def HasCard (P : List Int → Prop) (k : Nat) : Prop := ∃ l : List (List Int), l.Nodup ∧ l.length = k ∧ ∀ p, p ∈ l ↔ P p
theorem HasCard.uniq {P : List Int → Prop} {a b : Nat} (ha : HasCard P a) (hb : HasCard P b) : a = b := by
  obtain ⟨l, n1, e1, h1⟩ := ha
  obtain ⟨m, n2, e2, h2⟩ := hb
  have := (List.perm_ext_iff_of_nodup n1 n2).2 fun p => by rw [h1, h2]
  rw [← e1, ← e2]; exact this.length_eq
theorem HasCard.congr {P Q : List Int → Prop} {a : Nat} (ha : HasCard P a) (h : ∀ p, P p ↔ Q p) : HasCard Q a := by
  obtain ⟨l, n1, e1, h1⟩ := ha
  exact ⟨l, n1, e1, fun p => by rw [h1, h]⟩
theorem card_nil (n : Nat) : HasCard (Gen n []) 1 := ⟨[iota n], by simp, rfl, fun p => by
  rw [List.mem_singleton]
  exact ⟨fun e => by rw [e]; exact .one, Gen.nil⟩⟩
theorem nodup_flat {α β : Type} {l : List α} {f : α → List β} (hl : l.Nodup) (hf : ∀ x ∈ l, (f x).Nodup) (hd : ∀ x ∈ l, ∀ y ∈ l, x ≠ y → ∀ b, b ∈ f x → b ∈ f y → False) : (l.flatMap f).Nodup := by
  induction l with
  | nil => simp
  | cons x l ih =>
    rw [List.flatMap_cons]
    refine List.nodup_append.2 ⟨hf x (by simp), ih (List.nodup_cons.1 hl).2 (fun y hy => hf y (by simp [hy])) (fun y hy z hz => hd y (by simp [hy]) z (by simp [hz])), fun b hb c hc e => ?_⟩
    subst e
    obtain ⟨y, hy, hby⟩ := List.mem_flatMap.1 hc
    exact hd x (by simp) y (by simp [hy]) (fun e => (List.nodup_cons.1 hl).1 (e ▸ hy)) b hb hby
theorem length_flat {α β : Type} {l : List α} {f : α → List β} {k : Nat} (h : ∀ x ∈ l, (f x).length = k) : (l.flatMap f).length = l.length * k := by
  induction l with
  | nil => simp
  | cons x l ih => rw [List.flatMap_cons, List.length_append, h x (by simp), ih fun y hy => h y (by simp [hy]), List.length_cons, Nat.succ_mul]; omega
section
variable {n j : Nat} {L : Lv} {T : List (List Int)}
theorem card_step (h : LvG n j L) (hn : n ≤ 1000) (hj : j < n) (hT : ∀ t ∈ T, Pm n t) (hTf : ∀ t ∈ T, Fixes t j) (hd : Done n j L T) (hsub : ∀ t ∈ T, Gen n L.gs t) {k : Nat} (hc : HasCard (Gen n T) k) : HasCard (Gen n L.gs) (L.od.length * k) := by
  obtain ⟨l, n1, e1, h1⟩ := hc
  have hex : ∀ x ∈ L.od, ∃ u, L.rc x = some u := fun x hx => Option.ne_none_iff_exists'.1 ((h.odm x).1 hx)
  have hlp : ∀ t ∈ l, Pm n t ∧ Fixes t j := fun t ht => ⟨((h1 t).1 ht).pm hn hT, ((h1 t).1 ht).fix hn hT hj hTf⟩
  refine ⟨L.od.flatMap fun x => l.map fun t => thenL t ((L.rc x).getD []), nodup_flat h.odn (fun x hx => ?_) (fun x hx y hy hxy b hb hb2 => ?_), ?_, fun p => ?_⟩
  · obtain ⟨u, hu⟩ := hex x hx
    refine List.pairwise_map.2 (n1.imp_of_mem fun {a b} ha hb hne e => hne ?_)
    rw [hu] at e
    exact pm_cancel (hlp a ha).1 (hlp b hb).1 (h.pm hn hu) e
  · obtain ⟨u, hu⟩ := hex x hx
    obtain ⟨v, hv⟩ := hex y hy
    rw [hu] at hb
    rw [hv] at hb2
    obtain ⟨s, hs, rfl⟩ := List.mem_map.1 hb
    obtain ⟨t, ht, e⟩ := List.mem_map.1 hb2
    have e2 := congrArg (fun q => nth q j) e
    simp only [Option.getD_some] at e2
    rw [(hlp t ht).1.at hj, (hlp s hs).1.at hj, (hlp t ht).2, (hlp s hs).2, Int.toNat_natCast, (h.rcs x u hu).2.1, (h.rcs y v hv).2.1] at e2
    omega
  · rw [length_flat (k := k)]
    intro x _
    rw [List.length_map, e1]
  · rw [List.mem_flatMap]
    constructor
    · rintro ⟨x, hx, hp⟩
      obtain ⟨u, hu⟩ := hex x hx
      rw [hu] at hp
      obtain ⟨t, ht, rfl⟩ := List.mem_map.1 hp
      exact Gen.prod hn h.gpm (((h1 t).1 ht).sub hn h.gpm hsub) (h.rcs x u hu).2.2
    · intro hp
      obtain ⟨w, hw, hH⟩ := schreier h hn hj hT hTf hd hp
      refine ⟨_, (h.odm _).2 (by rw [hw]; simp), List.mem_map.2 ⟨thenL p (backL w), (h1 _).2 hH, ?_⟩⟩
      rw [hw]
      exact pm_tomul (hp.pm hn h.gpm) (h.pm hn hw)
end
end Go.Proofs.Ytplekfgadbjgdaa

namespace Go.Proofs.Ytplekfgadbjgdaa
open Go.RowKit Go.Sl

def nthv (vs : List Value) (i : Nat) : Value := vs.getD i undef
def nthr (xss : List (List Int)) (i : Nat) : List Int := xss.getD i []
theorem nthv_lt {vs : List Value} {i : Nat} (h : i < vs.length) : nthv vs i = vs[i] := by simp [nthv, h]
theorem nthr_lt {xss : List (List Int)} {i : Nat} (h : i < xss.length) : nthr xss i = xss[i] := by simp [nthr, h]
theorem nthr_mem {xss : List (List Int)} {i : Nat} (h : i < xss.length) : nthr xss i ∈ xss := by rw [nthr_lt h]; exact List.getElem_mem h

/-- The slice v of slices holds the values vs, which read as the lists xss. -/
def RowsV (w : World) (v : Value) (vs : List Value) (xss : List (List Int)) : Prop := Sl w v 1 vs ∧ vs.length = xss.length ∧ ∀ i, i < xss.length → Ints w (nthv vs i) (nthr xss i)
def Rows2 (w : World) (v : Value) (xss : List (List Int)) : Prop := ∃ vs, RowsV w v vs xss

section
variable {w w' : World} {v : Value} {vs : List Value} {xss : List (List Int)} {B : Nat}
theorem RowsV.isSl (h : RowsV w v vs xss) : IsSl v := h.1.1
theorem RowsV.len (h : RowsV w v vs xss) : vlen v = xss.length := by have := h.1.2.1; rw [h.2.1] at this; omega
theorem RowsV.cell (h : RowsV w v vs xss) {i : Nat} (hi : i < xss.length) : w.cell? (vat v i) = some (nthv vs i) := by
  have := Sl.cell h.1 (j := i) (by rw [h.2.1]; exact hi)
  rw [this, nthv_lt (by rw [h.2.1]; exact hi)]
theorem RowsV.row (h : RowsV w v vs xss) {i : Nat} (hi : i < xss.length) : Ints w (nthv vs i) (nthr xss i) := h.2.2 i hi
theorem RowsV.below (h : RowsV w v vs xss) (hb : Below w.heap.size w w') : RowsV w' v vs xss := ⟨h.1.below hb, h.2.1, fun i hi => (h.2.2 i hi).below hb⟩
theorem RowsV.alloc (h : RowsV w v vs xss) (o : Obj) : RowsV (w.alloc o) v vs xss := h.below ((Below.refl _ _).alloc (Nat.le_refl _) o)
theorem Rows2.isSl (h : Rows2 w v xss) : IsSl v := h.choose_spec.isSl
theorem Rows2.len (h : Rows2 w v xss) : vlen v = xss.length := h.choose_spec.len
theorem Rows2.below (h : Rows2 w v xss) (hb : Below w.heap.size w w') : Rows2 w' v xss := let ⟨vs, h⟩ := h; ⟨vs, h.below hb⟩
theorem rows2_nil (w : World) : Rows2 w (.slice none 0 0) [] := ⟨[], sl_nil w 1, rfl, fun i hi => absurd hi (by simp)⟩

/-- The call's own slice of slices: its rows are read, it may be appended to. -/
def OwnR (w : World) (B : Nat) (v : Value) (xss : List (List Int)) : Prop := ∃ vs, Own w B 22 1 v vs ∧ vs.length = xss.length ∧ ∀ i, i < xss.length → Ints w (nthv vs i) (nthr xss i)
theorem OwnR.rows (h : OwnR w B v xss) : Rows2 w v xss := let ⟨vs, a, b, c⟩ := h; ⟨vs, a.sl, b, c⟩
theorem OwnR.isSl (h : OwnR w B v xss) : IsSl v := h.rows.isSl
theorem OwnR.len (h : OwnR w B v xss) : vlen v = xss.length := h.rows.len
theorem OwnR.lt (h : OwnR w B v xss) : ∀ k, row v = some k → B ≤ k ∧ k < w.heap.size := let ⟨_, a, _, _⟩ := h; a.lt
theorem OwnR.below (h : OwnR w B v xss) (hb : Below w.heap.size w w') : OwnR w' B v xss := let ⟨vs, a, b, c⟩ := h; ⟨vs, a.below hb, b, fun i hi => (c i hi).below hb⟩
theorem OwnR.low (h : OwnR w B v xss) {B' : Nat} (hB : B' ≤ B) : OwnR w B' v xss := let ⟨vs, a, b, c⟩ := h; ⟨vs, a.low hB, b, c⟩
/-- No row lies in the slice's own block. -/
def OwnR.apart (w : World) (B : Nat) (v : Value) (xss : List (List Int)) : Prop := ∃ vs, Own w B 22 1 v vs ∧ vs.length = xss.length ∧ (∀ i, i < xss.length → Ints w (nthv vs i) (nthr xss i)) ∧ ∀ i, i < xss.length → 0 < (nthr xss i).length → row v ≠ some (vblk (nthv vs i))
theorem OwnR.apart.own (h : OwnR.apart w B v xss) : OwnR w B v xss := let ⟨vs, a, b, c, _⟩ := h; ⟨vs, a, b, c⟩
theorem OwnR.apart.below (h : OwnR.apart w B v xss) (hb : Below w.heap.size w w') : OwnR.apart w' B v xss := let ⟨vs, a, b, c, d⟩ := h; ⟨vs, a.below hb, b, fun i hi => (c i hi).below hb, d⟩
theorem ownRA_nil (w : World) (B : Nat) : OwnR.apart w B (.slice none 0 0) [] := ⟨[], own_nil w B _ 1, rfl, fun i hi => absurd hi (by simp), fun i hi => absurd hi (by simp)⟩
end

theorem Ints.keep {w w' : World} {v : Value} {xs : List Int} (h : Ints w v xs) {r : Option Nat} (hg : w.grownBy w' r) (hr : 0 < xs.length → r ≠ some (vblk v)) : Ints w' v xs := by
  rcases Nat.eq_zero_or_pos xs.length with h0 | h0
  · obtain rfl := List.eq_nil_of_length_eq_zero h0
    exact ⟨h.1, h.2.1, by simp⟩
  · exact h.grown hg fun k hk e => hr h0 (by rw [hk, e])
theorem Ints.blk_lt {w : World} {v : Value} {xs : List Int} (h : Ints w v xs) (h0 : 0 < xs.length) : vblk v < w.heap.size := by
  have := World.block_lt_of_cell? w _ (h.cell h0); exact this

/-- append of one row. -/
theorem wpList_pushRow {w : World} {ops : Array Oper} {rest : List Oper} {o : Oper} {a : Act} {Q : Exit → Act → World → Prop} (hgd : o.guard = none) (s x : Operand)
    (ho : o.op = .call { callee := .builtin .append, args := #[s, x], argTypes := #[24, 24] })
    {B : Nat} {v r : Value} {xss : List (List Int)} {ys : List Int} (hs : a.eval s = v) (hx : a.eval x = .slice (some ⟨w.heap.size, 0, none⟩) 1 1) (hown : OwnR.apart w B v xss) (hy : Ints w r ys) (hB : B ≤ w.heap.size) (hlen : xss.length ≤ 1000000000000)
    (hap : 0 < ys.length → row v ≠ some (vblk r))
    (h : ∀ v' w', OwnR.apart w' B v' (xss ++ [ys]) → w.grownBy w' (row v) → (∀ k, row v' = some k → row v = some k ∨ w.heap.size ≤ k) → wpList Try.prog ops Q rest (a.put o.dst v') w') :
    wpList Try.prog ops Q (o :: rest) a (w.alloc (.cells #[r] 22)) := by
  obtain ⟨i, hi, hz0, hz1, hz2⟩ := info_parts info_slice
  have hl : vlen v = xss.length := hown.own.len
  obtain ⟨vs, ha, hvl, hrows, hapr⟩ := hown
  refine wpList_append_sl hgd s x _ ho B 22 i _ 1 24 Try.underlying24 hi hz0 hz1 hz2 rfl (by decide) hs hx (Own.alloc ha _) (sl_one w r 22)
    (by intro u hu; simp at hu; subst hu; exact oneCell'_sl hy.1) (by simp only [vlen_mk, hl, maxLen]; omega) (by simp only [vlen_mk, hl]; omega) (by simp; omega) ?_
  intro v' w' h1 h2 h3
  have hg : w.grownBy w' (row v) := ⟨h2.os, h2.tape, h2.output, by have := h2.size; simp at this; omega, fun k hk hr => (h2.block k (by simp; omega) hr).trans (Below.heap_alloc w _ k hk)⟩
  have hfr : ∀ k, row v' = some k → row v = some k ∨ w.heap.size ≤ k := by
    intro k hk; rcases h3 k hk with h | h
    · exact .inl h
    · exact .inr (by simp at h; omega)
  have hnv : ∀ i, i < xss.length → nthv (vs ++ [r]) i = nthv vs i ∧ nthr (xss ++ [ys]) i = nthr xss i := by
    intro i hi
    simp [nthv, nthr, List.getElem?_append, hvl, hi]
  have hlast : nthv (vs ++ [r]) xss.length = r ∧ nthr (xss ++ [ys]) xss.length = ys := by
    simp [nthv, nthr, hvl]
  refine h v' w' ⟨vs ++ [r], h1, by simp [hvl], fun i hi => ?_, fun i hi h0 => ?_⟩ hg hfr
  · simp only [List.length_append, List.length_cons, List.length_nil] at hi
    rcases Nat.lt_or_ge i xss.length with hlt | hge
    · rw [(hnv i hlt).1, (hnv i hlt).2]
      exact (hrows i hlt).keep hg (hapr i hlt)
    · obtain rfl : i = xss.length := by omega
      rw [hlast.1, hlast.2]
      exact hy.keep hg hap
  · simp only [List.length_append, List.length_cons, List.length_nil] at hi
    intro e
    rcases Nat.lt_or_ge i xss.length with hlt | hge
    · rw [(hnv i hlt).2] at h0
      rw [(hnv i hlt).1] at e
      rcases hfr _ e with h4 | h4
      · exact hapr i hlt h0 h4
      · have := (hrows i hlt).blk_lt h0; omega
    · obtain rfl : i = xss.length := by omega
      rw [hlast.2] at h0
      rw [hlast.1] at e
      rcases hfr _ e with h4 | h4
      · exact hap h0 h4
      · have := hy.blk_lt h0; omega

end Go.Proofs.Ytplekfgadbjgdaa

namespace Go.Proofs.Ytplekfgadbjgdaa
open Go.RowKit Go.Sl

theorem orb_le : ∀ (X J : List Nat), X.Nodup → (∀ x ∈ X, x ∈ J) → X.length ≤ J.length := by
  intro X
  induction X with
  | nil => intro J _ _; exact Nat.zero_le _
  | cons x X ih =>
    intro J hn hs
    have hx := hs x (by simp)
    have h := ih (J.erase x) (List.nodup_cons.1 hn).2 (fun y hy => (List.mem_erase_of_ne (fun (e : y = x) => (List.nodup_cons.1 hn).1 (by rw [← e]; exact hy))).2 (hs y (List.mem_cons_of_mem _ hy)))
    rw [List.length_erase_of_mem hx] at h
    have := List.length_pos_of_mem hx
    rw [List.length_cons]; omega
/-- A row is the orbit of each of its points. -/
structure IsOrb (n : Nat) (S : List (List Int)) (o : List Int) : Prop where
  nd : o.Nodup
  pos : 0 < o.length
  rng : ∀ x ∈ o, 0 ≤ x ∧ x < n
  orb : ∀ x ∈ o, ∀ y, y ∈ o ↔ ∃ p, Gen n S p ∧ nth p x.toNat = y
/-- Rows that are orbits, all apart. -/
structure Orbs (n : Nat) (S : List (List Int)) (out : List (List Int)) : Prop where
  each : ∀ o ∈ out, IsOrb n S o
  flat : out.flatten.Nodup
section
variable {n : Nat} {S : List (List Int)} {o o' : List Int} {out : List (List Int)}
theorem IsOrb.perm (h : IsOrb n S o) (hp : o'.Perm o) : IsOrb n S o' :=
  ⟨hp.nodup_iff.2 h.nd, by rw [hp.length_eq]; exact h.pos, fun x hx => h.rng x (hp.mem_iff.1 hx), fun x hx y => by rw [hp.mem_iff]; exact h.orb x (hp.mem_iff.1 hx) y⟩
theorem IsOrb.same (h : IsOrb n S o) (h' : IsOrb n S o') {x : Int} (hx : x ∈ o) (hx' : x ∈ o') : o.Perm o' :=
  (List.perm_ext_iff_of_nodup h.nd h'.nd).2 fun y => by rw [h.orb x hx y, h'.orb x hx' y]
theorem IsOrb.len_le (h : IsOrb n S o) : o.length ≤ n := by
  have hnd : (o.map Int.toNat).Nodup := List.pairwise_map.2 (h.nd.imp_of_mem fun {a b} ha hb hne e => hne (by have := h.rng a ha; have := h.rng b hb; omega))
  have hsub : ∀ x ∈ o.map Int.toNat, x ∈ List.range n := fun x hx => by
    obtain ⟨y, hy, rfl⟩ := List.mem_map.1 hx
    have := h.rng y hy
    exact List.mem_range.2 (by omega)
  have := orb_le _ _ hnd hsub
  simpa using this
/-- What the loop makes: all that is reached from a point, and closed. -/
structure Grow (n : Nat) (S : List (List Int)) (i : Nat) (o : List Int) (k : Nat) : Prop where
  nd : o.Nodup
  base : (i : Int) ∈ o
  way : ∀ x ∈ o, ∃ p, Gen n S p ∧ nth p i = x
  done : ∀ j, j < k → ∀ g ∈ S, nth g (nth o j).toNat ∈ o
theorem grow_one {i : Nat} (hi : i < n) : Grow n S i [(i : Int)] 0 :=
  ⟨by simp, by simp, fun x hx => ⟨_, .one, by rw [List.mem_singleton.1 hx]; exact nth_iota n i hi⟩, fun j hj => by omega⟩
theorem Grow.rng {i k : Nat} (h : Grow n S i o k) (hn : n ≤ 1000) (hS : ∀ g ∈ S, Pm n g) (hi : i < n) {x : Int} (hx : x ∈ o) : 0 ≤ x ∧ x < n := by
  obtain ⟨p, hp, rfl⟩ := h.way x hx
  exact (hp.pm hn hS).rng hi
theorem Grow.len {i k : Nat} (h : Grow n S i o k) (hn : n ≤ 1000) (hS : ∀ g ∈ S, Pm n g) (hi : i < n) : o.length ≤ n := by
  have hnd : (o.map Int.toNat).Nodup := List.pairwise_map.2 (h.nd.imp_of_mem fun {a b} ha hb hne e => hne (by have := h.rng hn hS hi ha; have := h.rng hn hS hi hb; omega))
  have hsub : ∀ x ∈ o.map Int.toNat, x ∈ List.range n := fun x hx => by
    obtain ⟨y, hy, rfl⟩ := List.mem_map.1 hx
    have := h.rng hn hS hi hy
    exact List.mem_range.2 (by omega)
  have := orb_le _ _ hnd hsub
  simpa using this
/-- A round over the generators: those before the q-th are done at the k-th point. -/
def Part (S : List (List Int)) (o : List Int) (k q : Nat) : Prop := ∀ j, j < q → nth (nthr S j) (nth o k).toNat ∈ o
theorem part_zero (S : List (List Int)) (o : List Int) (k : Nat) : Part S o k 0 := fun j hj => by omega
theorem Part.keep {k q : Nat} (h : Part S o k q) (hq : nth (nthr S q) (nth o k).toNat ∈ o) : Part S o k (q + 1) := fun j hj => by
  rcases Nat.lt_succ_iff_lt_or_eq.1 hj with h1 | rfl
  · exact h j h1
  · exact hq
theorem nth_push_lt (o : List Int) (z : Int) {j : Nat} (hj : j < o.length) : nth (o ++ [z]) j = nth o j := by simp [nth, List.getElem?_append, hj]
theorem Part.push {k q : Nat} (h : Part S o k q) (hk : k < o.length) : Part S (o ++ [nth (nthr S q) (nth o k).toNat]) k (q + 1) := fun j hj => by
  rw [nth_push_lt _ _ hk]
  rcases Nat.lt_succ_iff_lt_or_eq.1 hj with h1 | rfl
  · exact List.mem_append_left _ (h j h1)
  · simp
theorem Grow.push {i k q : Nat} (h : Grow n S i o k) (hn : n ≤ 1000) (hS : ∀ g ∈ S, Pm n g) (hi : i < n) (hk : k < o.length) (hq : q < S.length) (hno : ¬ nth (nthr S q) (nth o k).toNat ∈ o) : Grow n S i (o ++ [nth (nthr S q) (nth o k).toNat]) k := by
  have hg : nthr S q ∈ S := by rw [nthr_lt hq]; exact List.getElem_mem hq
  refine ⟨List.nodup_append.2 ⟨h.nd, by simp, fun a ha b hb e => hno ?_⟩, List.mem_append_left _ h.base, fun x hx => ?_, fun j hj g hgS => ?_⟩
  · rw [List.mem_singleton.1 hb] at e; rwa [e] at ha
  · rcases List.mem_append.1 hx with hx | hx
    · exact h.way x hx
    · obtain ⟨p, hp, e⟩ := h.way _ (nth_mem hk)
      exact ⟨_, .mul hp hg, by rw [(hp.pm hn hS).at hi, e, List.mem_singleton.1 hx]⟩
  · rw [nth_push_lt _ _ (by omega)]
    exact List.mem_append_left _ (h.done j hj g hgS)
theorem Grow.next {i k : Nat} (h : Grow n S i o k) (hp : Part S o k S.length) : Grow n S i o (k + 1) := ⟨h.nd, h.base, h.way, fun j hj g hg => by
  rcases Nat.lt_succ_iff_lt_or_eq.1 hj with h1 | rfl
  · exact h.done j h1 g hg
  · obtain ⟨m, hm, rfl⟩ := List.getElem_of_mem hg
    have := hp m hm
    rwa [nthr_lt hm] at this⟩
theorem Grow.isOrb {i : Nat} (h : Grow n S i o o.length) (hn : n ≤ 1000) (hS : ∀ g ∈ S, Pm n g) (hi : i < n) : IsOrb n S o := by
  have hr : ∀ x ∈ o, 0 ≤ x ∧ x < n := fun x hx => h.rng hn hS hi hx
  have hcl : ∀ g ∈ S, ∀ x ∈ o, nth g x.toNat ∈ o := fun g hg x hx => by
    obtain ⟨m, hm, rfl⟩ := List.getElem_of_mem hx
    have := h.done m hm g hg
    rwa [nth_lt hm] at this
  have honto : ∀ g ∈ S, ∀ x ∈ o, ∃ y ∈ o, nth g y.toNat = x := fun g hg x hx => by
    have hG := hS g hg
    have hnd : (o.map fun y => (nth g y.toNat).toNat).Nodup := List.pairwise_map.2 (h.nd.imp_of_mem fun {a b} ha hb hne e => hne (by
      have r1 := hr a ha; have r2 := hr b hb
      have q1 := hG.rng (k := a.toNat) (by omega); have q2 := hG.rng (k := b.toNat) (by omega)
      have := pm_inj hG (i := a.toNat) (j := b.toNat) (by omega) (by omega) (by omega)
      omega))
    have hp := pigP (o.map fun y => (nth g y.toNat).toNat) (o.map Int.toNat) hnd (fun z hz => by
      obtain ⟨y, hy, rfl⟩ := List.mem_map.1 hz
      exact List.mem_map.2 ⟨_, hcl g hg y hy, rfl⟩) (by simp)
    obtain ⟨y, hy, e⟩ := List.mem_map.1 (hp.mem_iff.1 (List.mem_map.2 ⟨x, hx, rfl⟩))
    have r1 := hr y hy; have r2 := hr x hx
    have q1 := hG.rng (k := y.toNat) (by omega)
    exact ⟨y, hy, by omega⟩
  refine ⟨h.nd, List.length_pos_of_mem h.base, hr, fun x hx y => ⟨fun hy => ?_, ?_⟩⟩
  · obtain ⟨p, hp, e1⟩ := h.way x hx
    obtain ⟨q, hq, e2⟩ := h.way y hy
    have hP := hp.pm hn hS
    refine ⟨_, Gen.prod hn hS (hp.back hn hS) hq, ?_⟩
    have r1 := hr x hx
    rw [hP.back.at (show x.toNat < n by omega)]
    have h1 := congrArg (fun l => nth l i) (pm_mulback hP)
    rw [hP.at hi, e1, nth_iota _ _ hi] at h1
    rw [h1, Int.toNat_natCast]
    exact e2
  · rintro ⟨p, hp, rfl⟩
    have r1 := hr x hx
    induction hp with
    | one => rw [nth_iota _ _ (show x.toNat < n by omega)]; rw [show ((x.toNat : Nat) : Int) = x by omega]; exact hx
    | mul hp hg ih =>
      rw [(hp.pm hn hS).at (show x.toNat < n by omega)]
      exact hcl _ hg _ ih
    | inv hp hg ih =>
      rw [(hp.pm hn hS).at (show x.toNat < n by omega)]
      obtain ⟨y, hy, e⟩ := honto _ hg _ ih
      have hG := hS _ hg
      have r2 := hr y hy
      have h1 := congrArg (fun l => nth l y.toNat) (pm_mulback hG)
      rw [hG.at (show y.toNat < n by omega), e, nth_iota _ _ (show y.toNat < n by omega)] at h1
      rw [h1, show ((y.toNat : Nat) : Int) = y by omega]; exact hy
theorem orbs_nil : Orbs n S [] := ⟨fun o ho => by simp at ho, by simp⟩
theorem Orbs.push {i : Nat} (h : Orbs n S out) (ho : IsOrb n S o) (hi : (i : Int) ∈ o) (hno : ∀ o ∈ out, ¬ (i : Int) ∈ o) : Orbs n S (out ++ [o]) := by
  refine ⟨fun x hx => ?_, ?_⟩
  · rcases List.mem_append.1 hx with hx | hx
    · exact h.each x hx
    · rw [List.mem_singleton.1 hx]; exact ho
  · rw [List.flatten_append, List.flatten_singleton]
    refine List.nodup_append.2 ⟨h.flat, ho.nd, fun a ha b hb e => ?_⟩
    subst e
    obtain ⟨o2, ho2, ha2⟩ := List.mem_flatten.1 ha
    exact hno o2 ho2 (((h.each o2 ho2).same ho ha2 hb).mem_iff.2 hi)
/-- All orbits. -/
structure AllOrbs (n : Nat) (S : List (List Int)) (out : List (List Int)) : Prop where
  orbs : Orbs n S out
  all : ∀ i : Nat, i < n → ∃ o ∈ out, (i : Int) ∈ o
theorem AllOrbs.total (h : AllOrbs n S out) : out.flatten.length = n := by
  have hp : (out.flatten).Perm (iota n) := by
    refine (List.perm_ext_iff_of_nodup h.orbs.flat ?_).2 fun x => ?_
    · exact List.pairwise_map.2 (List.nodup_range.imp fun hne e => hne (Int.ofNat.inj e))
    · constructor
      · intro hx
        obtain ⟨o, ho, hx⟩ := List.mem_flatten.1 hx
        have := (h.orbs.each o ho).rng x hx
        exact List.mem_map.2 ⟨x.toNat, List.mem_range.2 (by omega), Int.toNat_of_nonneg this.1⟩
      · intro hx
        obtain ⟨k, hk, rfl⟩ := List.mem_map.1 hx
        obtain ⟨o, ho, hx⟩ := h.all k (List.mem_range.1 hk)
        exact List.mem_flatten.2 ⟨o, ho, hx⟩
  rw [hp.length_eq, iota_length]
/-- The order is the product. -/
theorem orb_stab (hn : n ≤ 1000) (hS : ∀ g ∈ S, Pm n g) (ho : IsOrb n S o) {m : Nat} (hm : HasCard (Gen n S) m) : ∃ s, m = s * o.length := by
  obtain ⟨l, n1, e1, h1⟩ := id hm
  obtain ⟨x, hx⟩ := List.exists_mem_of_length_pos ho.pos
  have hr := ho.rng x hx
  have hxn : x.toNat < n := by omega
  have hex : ∀ y : Int, ∃ u, y ∈ o → (Gen n S u ∧ nth u x.toNat = y) := fun y => by
    by_cases hy : y ∈ o
    · obtain ⟨u, hu⟩ := (ho.orb x hx y).1 hy
      exact ⟨u, fun _ => hu⟩
    · exact ⟨[], fun h => absurd h hy⟩
  obtain ⟨u, hu⟩ := Classical.axiomOfChoice hex
  obtain ⟨t, ht⟩ : ∃ t, t = l.filter fun p => decide (nth p x.toNat = x) := ⟨_, rfl⟩
  have htm : ∀ p, p ∈ t ↔ Gen n S p ∧ nth p x.toNat = x := fun p => by rw [ht, List.mem_filter, h1, decide_eq_true_eq]
  have htn : t.Nodup := by rw [ht]; exact n1.filter _
  have hc : HasCard (Gen n S) (o.length * t.length) := by
    refine ⟨o.flatMap fun y => t.map fun p => thenL p (u y), nodup_flat ho.nd (fun y hy => ?_) (fun y hy z hz hyz b hb hb2 => ?_), ?_, fun p => ?_⟩
    · refine List.pairwise_map.2 (htn.imp_of_mem fun {a b} ha hb hne e => hne ?_)
      exact pm_cancel (((htm a).1 ha).1.pm hn hS) (((htm b).1 hb).1.pm hn hS) ((hu y hy).1.pm hn hS) e
    · obtain ⟨p, hp, rfl⟩ := List.mem_map.1 hb
      obtain ⟨q, hq, e⟩ := List.mem_map.1 hb2
      have e2 := congrArg (fun q => nth q x.toNat) e
      rw [(((htm p).1 hp).1.pm hn hS).at hxn, (((htm q).1 hq).1.pm hn hS).at hxn, ((htm p).1 hp).2, ((htm q).1 hq).2, (hu y hy).2, (hu z hz).2] at e2
      exact hyz e2.symm
    · rw [length_flat (k := t.length)]
      intro y _
      rw [List.length_map]
    · rw [List.mem_flatMap]
      constructor
      · rintro ⟨y, hy, hp⟩
        obtain ⟨q, hq, rfl⟩ := List.mem_map.1 hp
        exact Gen.prod hn hS ((htm q).1 hq).1 (hu y hy).1
      · intro hp
        have hP := hp.pm hn hS
        have hy : nth p x.toNat ∈ o := (ho.orb x hx _).2 ⟨p, hp, rfl⟩
        have hU := hu _ hy
        refine ⟨_, hy, List.mem_map.2 ⟨thenL p (backL (u (nth p x.toNat))), (htm _).2 ⟨Gen.prod hn hS hp (hU.1.back hn hS), ?_⟩, pm_tomul hP (hU.1.pm hn hS)⟩⟩
        rw [hP.at hxn]
        have h2 := congrArg (fun l => nth l x.toNat) (pm_mulback (hU.1.pm hn hS))
        rw [(hU.1.pm hn hS).at hxn, hU.2, nth_iota _ _ hxn] at h2
        rw [h2]; omega
  exact ⟨t.length, by rw [Nat.mul_comm]; exact hm.uniq hc⟩
end
end Go.Proofs.Ytplekfgadbjgdaa

namespace Go.Proofs.Ytplekfgadbjgdaa
open Go.RowKit Go.Sl

/-- The generators of the next level; behind the last one there are none. -/
def nextGs (n : Nat) (C : Nat → Lv) (j : Nat) : List (List Int) := if j + 1 < n then (C (j + 1)).gs else []
/-- The levels from i on; all products of the levels from d on lead on. -/
structure Half (n i d : Nat) (C : Nat → Lv) : Prop where
  lv : ∀ j, i ≤ j → j < n → LvG n j (C j)
  nest : ∀ j, i ≤ j → j + 1 < n → ∀ g ∈ (C (j + 1)).gs, Gen n (C j).gs g
  done : ∀ j, d ≤ j → j < n → Done n j (C j) (nextGs n C j)
/-- How much the levels from j on may still grow. -/
def potT (n : Nat) (C : Nat → Lv) : Nat → Nat → Nat
  | 0, _ => 0
  | f + 1, j => (n - (C j).od.length) + potT n C f (j + 1)
def potC (n : Nat) (C : Nat → Lv) (j : Nat) : Nat := potT n C (n - j) j
/-- What a call on the levels from i on leaves. -/
structure Went (n i : Nat) (C D : Nat → Lv) : Prop where
  low : ∀ j, j < i → D j = C j
  mono : ∀ j, ∀ g ∈ (C j).gs, g ∈ (D j).gs
  pot : ∀ j, i ≤ j → potC n D j ≤ potC n C j
  sum : ∀ j, i ≤ j → (D j).gs.length + potC n D j ≤ (C j).gs.length + potC n C j
section
variable {n i d : Nat} {C D E : Nat → Lv}
theorem pot_step {j : Nat} (h : j < n) : potC n C j = (n - (C j).od.length) + potC n C (j + 1) := by
  unfold potC
  rw [show n - j = (n - (j + 1)) + 1 by omega, potT]
theorem potT_congr : ∀ (f j : Nat), (∀ k, j ≤ k → k < j + f → (D k).od = (C k).od) → potT n D f j = potT n C f j
  | 0, _, _ => rfl
  | f + 1, j, h => by rw [potT, potT, h j (Nat.le_refl _) (by omega), potT_congr f (j + 1) fun k h1 h2 => h k (by omega) (by omega)]
theorem pot_congr {j : Nat} (h : ∀ k, j ≤ k → (D k).od = (C k).od) : potC n D j = potC n C j := potT_congr _ _ fun k h1 _ => h k h1
theorem Went.refl (n i : Nat) (C : Nat → Lv) : Went n i C C := ⟨fun _ _ => rfl, fun _ _ h => h, fun _ _ => Nat.le_refl _, fun _ _ => Nat.le_refl _⟩
theorem Went.trans (h : Went n i C D) (k : Went n i D E) : Went n i C E :=
  ⟨fun j hj => (k.low j hj).trans (h.low j hj), fun j g hg => k.mono j g (h.mono j g hg), fun j hj => Nat.le_trans (k.pot j hj) (h.pot j hj), fun j hj => Nat.le_trans (k.sum j hj) (h.sum j hj)⟩
/-- A call on the levels behind i. -/
theorem Went.up (h : Went n (i + 1) C D) (hi : i < n) : Went n i C D := by
  have e : D i = C i := h.low i (Nat.lt_succ_self i)
  have hp : potC n D i ≤ potC n C i := by rw [pot_step hi, pot_step hi, e]; have := h.pot (i + 1) (Nat.le_refl _); omega
  refine ⟨fun j hj => h.low j (by omega), h.mono, fun j hj => ?_, fun j hj => ?_⟩
  · rcases Nat.eq_or_lt_of_le hj with rfl | h2
    · exact hp
    · exact h.pot j h2
  · rcases Nat.eq_or_lt_of_le hj with rfl | h2
    · rw [e]; omega
    · exact h.sum j h2
theorem Half.gpm (h : Half n i d C) {j : Nat} (h1 : i ≤ j) (h2 : j < n) : ∀ g ∈ (C j).gs, Pm n g := (h.lv j h1 h2).gpm
theorem Half.nextPm (h : Half n i d C) {j : Nat} (h1 : i ≤ j) (_h2 : j < n) : ∀ g ∈ nextGs n C j, Pm n g := by
  unfold nextGs
  split
  · rename_i h3; exact h.gpm (by omega) h3
  · intro g hg; cases hg
theorem Half.nextFix (h : Half n i d C) {j : Nat} (h1 : i ≤ j) (_h2 : j < n) : ∀ g ∈ nextGs n C j, Fixes g j := by
  unfold nextGs
  split
  · rename_i h3; exact fun g hg => (h.lv (j + 1) (by omega) h3).gfix g hg j (Nat.lt_succ_self j)
  · intro g hg; cases hg
theorem Half.nextIn (h : Half n i d C) {j : Nat} (h1 : i ≤ j) (_h2 : j < n) : ∀ g ∈ nextGs n C j, Gen n (C j).gs g := by
  unfold nextGs
  split
  · rename_i h3; exact h.nest j h1 h3
  · intro g hg; cases hg
/-- The generators of all further levels lie in the group of a level. -/
theorem Half.nestAll (h : Half n i d C) (hn : n ≤ 1000) {j : Nat} (h1 : i ≤ j) : ∀ k, j + k < n → ∀ g ∈ (C (j + k)).gs, Gen n (C j).gs g
  | 0, h2, g, hg => Gen.of (h.gpm h1 h2) hg
  | k + 1, h2, g, hg => (h.nest (j + k) (by omega) h2 g hg).sub hn (h.gpm h1 (by omega)) (h.nestAll hn h1 k (by omega))
theorem Half.nestTo (h : Half n i d C) (hn : n ≤ 1000) {j k : Nat} (h1 : i ≤ j) (h2 : j ≤ k) (h3 : k < n) : ∀ g ∈ (C k).gs, Gen n (C j).gs g := by
  have := h.nestAll hn h1 (k - j)
  rw [show j + (k - j) = k by omega] at this
  exact this h3
theorem Half.up (h : Half n i d C) : Half n (i + 1) (max d (i + 1)) C := ⟨fun j h1 h2 => h.lv j (by omega) h2, fun j h1 h2 => h.nest j (by omega) h2, fun j h1 h2 => h.done j (by omega) h2⟩
theorem Half.rest (h : Half n i i C) : Half n (i + 1) (i + 1) C := ⟨fun j h1 h2 => h.lv j (by omega) h2, fun j h1 h2 => h.nest j (by omega) h2, fun j h1 h2 => h.done j (by omega) h2⟩
theorem nodup_len : ∀ (X J : List Nat), X.Nodup → (∀ x ∈ X, x ∈ J) → X.length ≤ J.length
  | [], _, _, _ => Nat.zero_le _
  | x :: X, J, hn, hs => by
    have hx := hs x (by simp)
    have := nodup_len X (J.erase x) (List.nodup_cons.1 hn).2 fun y hy => by
      have hne : y ≠ x := fun e => (List.nodup_cons.1 hn).1 (e ▸ hy)
      exact (List.mem_erase_of_ne hne).2 (hs y (List.mem_cons_of_mem _ hy))
    rw [List.length_erase_of_mem hx] at this
    have := List.length_pos_of_mem hx
    rw [List.length_cons]; omega
theorem LvG.od_le {j : Nat} {L : Lv} (h : LvG n j L) : L.od.length ≤ n := by
  have hs : ∀ x ∈ L.od, x ∈ List.range n := fun x hx => by
    obtain ⟨u, hu⟩ := Option.ne_none_iff_exists'.1 ((h.odm x).1 hx)
    exact List.mem_range.2 (h.rcs x u hu).1
  have := nodup_len L.od (List.range n) h.odn hs
  rwa [List.length_range] at this
/-- The size of the group: the product of the numbers of points. -/
def sizeT (C : Nat → Lv) : Nat → Nat → Nat
  | 0, _ => 1
  | f + 1, j => (C j).od.length * sizeT C f (j + 1)
theorem card_from (h : Half n 0 0 C) (hn : n ≤ 1000) : ∀ (f j : Nat), j + f = n → HasCard (Gen n (if j < n then (C j).gs else [])) (sizeT C f j)
  | 0, j, e => by rw [if_neg (by omega)]; exact card_nil n
  | f + 1, j, e => by
    have hj : j < n := by omega
    rw [if_pos hj, sizeT]
    have := card_from h hn f (j + 1) (by omega)
    exact card_step (h.lv j (Nat.zero_le _) hj) hn hj (h.nextPm (Nat.zero_le _) hj) (h.nextFix (Nat.zero_le _) hj) (h.done j (Nat.zero_le _) hj) (h.nextIn (Nat.zero_le _) hj) this
end

/-! ### Sifting -/
/-- What sift gives: p' at level i'. -/
structure Sifted (n : Nat) (C : Nat → Lv) (i : Nat) (p : List Int) (i' : Nat) (p' : List Int) : Prop where
  le : i ≤ i'
  len : i' ≤ n
  pm : Pm n p'
  fix : ∀ x, x < i' → Fixes p' x
  same : ∀ S : List (List Int), (∀ g ∈ S, Pm n g) → (∀ j, i ≤ j → j < n → ∀ g ∈ (C j).gs, Gen n S g) → (Gen n S p ↔ Gen n S p')
section
variable {n i d : Nat} {C D : Nat → Lv} {p p' u : List Int}
theorem sifted_start (hp : Pm n p) (hi : i ≤ n) (hf : ∀ x, x < i → Fixes p x) : Sifted n C i p i p := ⟨Nat.le_refl _, hi, hp, hf, fun _ _ _ => Iff.rfl⟩
theorem Sifted.step (h : Sifted n C i p d p') (hn : n ≤ 1000) (hd : d < n) (hL : LvG n d (C d)) (hu : (C d).rc (nth p' d).toNat = some u) : Sifted n C i p (d + 1) (thenL p' (backL u)) := by
  have hU := hL.pm hn hu
  obtain ⟨h1, h2, h3⟩ := hL.rcs _ u hu
  have hufix : ∀ x, x < d → Fixes u x := fun x hx => h3.fix hn hL.gpm (by omega) fun g hg => hL.gfix g hg x hx
  refine ⟨by have := h.le; omega, hd, h.pm.mul hU.back, fun x hx => ?_, fun S hS hg => ?_⟩
  · rcases Nat.lt_or_ge x d with hl | hl
    · exact Fixes.mul h.pm (by omega) (h.fix x hl) (Fixes.back hU (by omega) (hufix x hl))
    · obtain rfl : x = d := by omega
      unfold Fixes
      rw [h.pm.at hd]
      have e := congrArg (fun l => nth l x) (pm_mulback hU)
      rw [hU.at hd, h2, Int.toNat_natCast] at e
      rw [e]; exact nth_iota n x hd
  · rw [h.same S hS hg]
    have hSu : Gen n S u := h3.sub hn hS (hg d h.le hd)
    constructor
    · intro hp; exact Gen.prod hn hS hp (hSu.back hn hS)
    · intro hp
      have := Gen.prod hn hS hp hSu
      rwa [pm_tomul h.pm hU] at this
theorem Sifted.all (h : Sifted n C i p n p') (hn : n ≤ 1000) : p' = iota n := pm_ext h.pm (pm_one hn) fun k hk => by rw [h.fix k hk, nth_iota n k hk]
/-- Nothing is left: it was in the group. -/
theorem Sifted.inside (h : Sifted n C i p n p') (hn : n ≤ 1000) {S : List (List Int)} (hS : ∀ g ∈ S, Pm n g) (hg : ∀ j, i ≤ j → j < n → ∀ g ∈ (C j).gs, Gen n S g) : Gen n S p :=
  (h.same S hS hg).2 (by rw [h.all hn]; exact .one)
end

/-! ### A generator more -/
def addG (L : Lv) (p : List Int) : Lv := ⟨L.gs ++ [p], L.rc, L.od⟩
def updC (C : Nat → Lv) (i : Nat) (L : Lv) : Nat → Lv := fun j => if j = i then L else C j
section
variable {n i d : Nat} {C D E : Nat → Lv} {p : List Int}
theorem updC_same (C : Nat → Lv) (i : Nat) (L : Lv) : updC C i L i = L := by unfold updC; rw [if_pos rfl]
theorem updC_other (C : Nat → Lv) {i j : Nat} (L : Lv) (h : j ≠ i) : updC C i L j = C j := by unfold updC; rw [if_neg h]
theorem addG_lv (hn : n ≤ 1000) {L : Lv} (h : LvG n i L) (hp : Pm n p) (hf : ∀ x, x < i → Fixes p x) : LvG n i (addG L p) := by
  have hpm : ∀ g ∈ L.gs ++ [p], Pm n g := fun g hg => by
    rcases List.mem_append.1 hg with h1 | h1
    · exact h.gpm g h1
    · rw [List.mem_singleton.1 h1]; exact hp
  refine ⟨hpm, fun g hg => ?_, h.base, fun x u hu => ?_, h.odm, h.odn⟩
  · rcases List.mem_append.1 hg with h1 | h1
    · exact h.gfix g h1
    · rw [List.mem_singleton.1 h1]; exact hf
  · obtain ⟨h1, h2, h3⟩ := h.rcs x u hu
    exact ⟨h1, h2, h3.sub hn hpm fun g hg => Gen.of hpm (List.mem_append_left _ hg)⟩
/-- What complete leaves. -/
structure CompRes (n i : Nat) (C D : Nat → Lv) : Prop where
  good : Half n i i D
  went : Went n i C D
  gs : (D i).gs = (C i).gs
  rcm : ∀ x u, (C i).rc x = some u → (D i).rc x = some u
/-- What add leaves. -/
structure AddRes (n i : Nat) (p : List Int) (C D : Nat → Lv) : Prop where
  good : Half n i i D
  went : Went n i C D
  has : Gen n (if i < n then (D i).gs else []) p
  upper : ∀ S : List (List Int), (∀ g ∈ S, Pm n g) → (∀ j, i ≤ j → j < n → ∀ g ∈ (C j).gs, Gen n S g) → Gen n S p → ∀ j, i ≤ j → j < n → ∀ g ∈ (D j).gs, Gen n S g
theorem CompRes.hit (h : CompRes n i C D) (hn : n ≤ 1000) (hi : i < n) {g : List Int} (hg : g ∈ (C i).gs) : (D i).rc (nth g i).toNat ≠ none := by
  have hl := h.good.lv i (Nat.le_refl _) hi
  obtain ⟨w, hw, -⟩ := h.good.done i (Nat.le_refl _) hi i (iota n) g hl.base (by rw [h.gs]; exact hg)
  rw [(pm_one hn).at hi, nth_iota n i hi, Int.toNat_natCast] at hw
  rw [hw]; simp
theorem od_more {L M : Lv} (hL : LvG n i L) (hM : LvG n i M) (hr : ∀ x u, L.rc x = some u → M.rc x = some u) {y : Nat} (h1 : L.rc y = none) (h2 : M.rc y ≠ none) : L.od.length + 1 ≤ M.od.length := by
  have := nodup_len (y :: L.od) M.od (List.nodup_cons.2 ⟨fun hy => (hL.odm y).1 hy h1, hL.odn⟩) fun x hx => by
    rcases List.mem_cons.1 hx with rfl | hx
    · exact (hM.odm x).2 h2
    · obtain ⟨u, hu⟩ := Option.ne_none_iff_exists'.1 ((hL.odm x).1 hx)
      exact (hM.odm x).2 (by rw [hr x u hu]; simp)
  simpa using this
theorem od_same {L M : Lv} (hL : LvG n i L) (hM : LvG n i M) (hr : ∀ x u, L.rc x = some u → M.rc x = some u) : L.od.length ≤ M.od.length :=
  nodup_len L.od M.od hL.odn fun x hx => by
    obtain ⟨u, hu⟩ := Option.ne_none_iff_exists'.1 ((hL.odm x).1 hx)
    exact (hM.odm x).2 (by rw [hr x u hu]; simp)
/-- What add's loop keeps: the levels from t on are done, those below are as at the start. i0: the level at which p got stuck. -/
structure Adding (n i0 t : Nat) (p : List Int) (C D : Nat → Lv) : Prop where
  good : Half n t t D
  low : ∀ j, j < t → D j = C j
  mono : ∀ j, ∀ g ∈ (C j).gs, g ∈ (D j).gs
  has : t ≤ i0 → p ∈ (D t).gs
  upper : ∀ S : List (List Int), (∀ g ∈ S, Pm n g) → (∀ j, t ≤ j → j < n → ∀ g ∈ (C j).gs, Gen n S g) → Gen n S p → ∀ j, t ≤ j → j < n → ∀ g ∈ (D j).gs, Gen n S g
  pot0 : t ≤ i0 → ∀ j, t ≤ j → j ≤ i0 → potC n D j + 1 ≤ potC n C j
  pot : ∀ j, t ≤ j → potC n D j ≤ potC n C j
  sum : ∀ j, t ≤ j → (D j).gs.length + potC n D j ≤ (C j).gs.length + potC n C j
theorem adding_start (h : Half n d d C) {i0 : Nat} (hi : d ≤ i0) (p : List Int) : Adding n i0 (i0 + 1) p C C :=
  ⟨⟨fun j h1 h2 => h.lv j (by omega) h2, fun j h1 h2 => h.nest j (by omega) h2, fun j h1 h2 => h.done j (by omega) h2⟩, fun _ _ => rfl, fun _ _ h => h, fun h => by omega, fun _ _ hg _ => hg, fun h => by omega, fun _ _ => Nat.le_refl _, fun _ _ => Nat.le_refl _⟩
/-- Before complete: one generator more. -/
theorem Adding.half {i0 : Nat} (h : Adding n i0 (i + 1) p C D) (hn : n ≤ 1000) (hC : Half n d d C) (hdi : d ≤ i) (hi : i ≤ i0) (hin : i0 < n) (hp : Pm n p) (hf : ∀ x, x < i0 → Fixes p x) : Half n i (i + 1) (updC D i (addG (C i) p)) := by
  have hl := addG_lv hn (hC.lv i hdi (by omega)) hp fun x hx => hf x (by omega)
  refine ⟨fun j h1 h2 => ?_, fun j h1 h2 => ?_, fun j h1 h2 => ?_⟩
  · by_cases e : j = i
    · rw [e, updC_same]; exact hl
    · rw [updC_other _ _ e]; exact h.good.lv j (by omega) h2
  · rw [updC_other _ _ (by omega)]
    by_cases e : j = i
    · rw [e, updC_same]
      intro g hg
      refine h.upper _ hl.gpm (fun k h3 h4 g hg => ?_) (Gen.of hl.gpm (List.mem_append_right _ (by simp))) (i + 1) (by omega) (by omega) g hg
      exact (hC.nestTo hn hdi (by omega) h4 g hg).sub hn hl.gpm fun x hx => Gen.of hl.gpm (List.mem_append_left _ hx)
    · rw [updC_other _ _ e]; exact h.good.nest j (by omega) h2
  · have e : nextGs n (updC D i (addG (C i) p)) j = nextGs n D j := by unfold nextGs; rw [updC_other _ _ (by omega)]
    rw [updC_other _ _ (by omega), e]
    exact h.good.done j h1 h2
/-- Behind complete. -/
theorem Adding.next {i0 : Nat} (h : Adding n i0 (i + 1) p C D) (hn : n ≤ 1000) (hC : Half n d d C) (hdi : d ≤ i) (hi : i ≤ i0) (hin : i0 < n) (hst : (C i0).rc (nth p i0).toNat = none) (hE : CompRes n i (updC D i (addG (C i) p)) E) : Adding n i0 i p C E := by
  have hCi := hC.lv i hdi (by omega)
  have hEi := hE.good.lv i (Nat.le_refl _) (by omega)
  have hgs : (E i).gs = (C i).gs ++ [p] := by rw [hE.gs, updC_same]; rfl
  have hp1 : potC n (updC D i (addG (C i) p)) (i + 1) = potC n D (i + 1) := pot_congr fun k h1 => by rw [updC_other _ _ (by omega)]
  have hpj : ∀ j, i + 1 ≤ j → potC n (updC D i (addG (C i) p)) j = potC n D j := fun j hj => pot_congr fun k h1 => by rw [updC_other _ _ (by omega)]
  have hrc : ∀ x u, (C i).rc x = some u → (E i).rc x = some u := fun x u hu => hE.rcm x u (by rw [updC_same]; exact hu)
  have hod := od_same hCi hEi hrc
  have hod1 : i = i0 → (C i).od.length + 1 ≤ (E i).od.length := fun e => by
    subst e
    exact od_more hCi hEi hrc hst (hE.hit hn (by omega) (by rw [updC_same]; exact List.mem_append_right _ (by simp)))
  have hle := hEi.od_le
  have hpi : potC n E i ≤ potC n C i := by
    rw [pot_step (C := E) (by omega), pot_step (C := C) (by omega)]
    have h1 := hE.went.pot (i + 1) (by omega)
    rw [hp1] at h1
    have h2 := h.pot (i + 1) (Nat.le_refl _)
    omega
  have hpi1 : potC n E i + 1 ≤ potC n C i := by
    rw [pot_step (C := E) (by omega), pot_step (C := C) (by omega)]
    have h1 := hE.went.pot (i + 1) (by omega)
    rw [hp1] at h1
    have h2 := h.pot (i + 1) (Nat.le_refl _)
    rcases Nat.eq_or_lt_of_le hi with e | e
    · have := hod1 e; omega
    · have := h.pot0 (by omega) (i + 1) (Nat.le_refl _) (by omega); omega
  refine ⟨hE.good, fun j hj => by rw [hE.went.low j hj, updC_other _ _ (by omega)]; exact h.low j (by omega), fun j g hg => ?_, fun _ => by rw [hgs]; simp, fun S hS hg hpS j h1 h2 g hgj => ?_, fun _ j h1 h2 => ?_, fun j h1 => ?_, fun j h1 => ?_⟩
  · by_cases e : j = i
    · rw [e] at hg ⊢; rw [hgs]; exact List.mem_append_left _ hg
    · exact hE.went.mono j g (by rw [updC_other _ _ e]; exact h.mono j g hg)
  · refine (hE.good.nestTo hn (Nat.le_refl _) h1 h2 g hgj).sub hn hS fun x hx => ?_
    rw [hgs] at hx
    rcases List.mem_append.1 hx with h3 | h3
    · exact hg i (Nat.le_refl _) (by omega) x h3
    · rw [List.mem_singleton.1 h3]; exact hpS
  · rcases Nat.eq_or_lt_of_le h1 with rfl | h3
    · exact hpi1
    · have h4 := hE.went.pot j (by omega)
      rw [hpj j h3] at h4
      have := h.pot0 (by omega) j h3 h2; omega
  · rcases Nat.eq_or_lt_of_le h1 with rfl | h3
    · exact hpi
    · have h4 := hE.went.pot j (by omega)
      rw [hpj j h3] at h4
      have := h.pot j h3; omega
  · rcases Nat.eq_or_lt_of_le h1 with rfl | h3
    · rw [hgs, List.length_append]; simp only [List.length_cons, List.length_nil]; omega
    · have h4 := hE.went.sum j (by omega)
      rw [hpj j h3, updC_other _ _ (by omega)] at h4
      have := h.sum j h3; omega
/-- The end of add. p0: what was to be added. -/
theorem Adding.res {i0 : Nat} {p0 : List Int} (h : Adding n i0 d p C D) (hn : n ≤ 1000) (hin : i0 < n) (hd : d ≤ i0) (hs : Sifted n C d p0 i0 p) : AddRes n d p0 C D := by
  have hdn : d < n := by omega
  have hgp := h.good.gpm (Nat.le_refl _) hdn
  refine ⟨h.good, ⟨h.low, h.mono, h.pot, h.sum⟩, ?_, fun S hS hg hp => h.upper S hS hg ((hs.same S hS hg).1 hp)⟩
  rw [if_pos hdn, hs.same _ hgp fun j h1 h2 g hg => h.good.nestTo hn (Nat.le_refl _) h1 h2 g (h.mono j g hg)]
  exact Gen.of hgp (h.has hd)
theorem addRes_none {p0 : List Int} (h : Half n d d C) (hn : n ≤ 1000) (hs : Sifted n C d p0 n p) : AddRes n d p0 C C := by
  refine ⟨h, Went.refl _ _ _, ?_, fun _ _ hg _ => hg⟩
  split
  · rename_i hdn
    exact hs.inside hn (h.gpm (Nat.le_refl _) hdn) fun j h1 h2 => h.nestTo hn (Nat.le_refl _) h1 h2
  · rename_i hdn
    exact hs.inside hn (fun g hg => by cases hg) fun j h1 h2 => by omega

/-! ### complete -/
def PairOK (n i : Nat) (D : Nat → Lv) (x : Nat) (g : List Int) : Prop := ∀ u, (D i).rc x = some u → ∃ w, (D i).rc (nth (thenL u g) i).toNat = some w ∧ Gen n (nextGs n D i) (thenL (thenL u g) (backL w))
structure Compl (n i : Nat) (C D : Nat → Lv) (k m : Nat) : Prop where
  half : Half n i (i + 1) D
  went : Went n i C D
  gs : (D i).gs = (C i).gs
  rcm : ∀ x u, (C i).rc x = some u → (D i).rc x = some u
  all : ∀ x ∈ (D i).od.take k, ∀ g ∈ (D i).gs, PairOK n i D x g
  now : ∀ h : k < (D i).od.length, ∀ g ∈ (D i).gs.take m, PairOK n i D (D i).od[k] g
theorem compl_start (h : Half n i (i + 1) C) : Compl n i C C 0 0 := ⟨h, Went.refl _ _ _, rfl, fun _ _ h => h, fun x hx => by simp at hx, fun _ g hg => by simp at hg⟩
theorem Compl.row {k : Nat} (h : Compl n i C D k (D i).gs.length) (hk : k < (D i).od.length) : Compl n i C D (k + 1) 0 := by
  refine ⟨h.half, h.went, h.gs, h.rcm, fun x hx g hg => ?_, fun _ g hg => by simp at hg⟩
  rw [List.take_succ_eq_append_getElem hk] at hx
  rcases List.mem_append.1 hx with h1 | h1
  · exact h.all x h1 g hg
  · rw [List.mem_singleton.1 h1]
    exact h.now hk g (by rw [List.take_length]; exact hg)
theorem Compl.res (hi : i < n) (h : Compl n i C D (D i).od.length 0) : CompRes n i C D := by
  have hl := h.half.lv i (Nat.le_refl _) hi
  refine ⟨⟨h.half.lv, h.half.nest, fun j h1 h2 => ?_⟩, h.went, h.gs, h.rcm⟩
  rcases Nat.eq_or_lt_of_le h1 with rfl | h3
  · intro x u g hu hg
    exact h.all x (by rw [List.take_length]; exact (hl.odm x).2 (by rw [hu]; simp)) g hg u hu
  · exact h.half.done j h3 h2
/-- The product leads to a point that was reached: the rest was added behind. -/
theorem Compl.found {k m : Nat} (h : Compl n i C D k m) (hn : n ≤ 1000) (hi : i < n) (hk : k < (D i).od.length) (hm : m < (D i).gs.length) {u w : List Int} (hu : (D i).rc (D i).od[k] = some u) (hw : (D i).rc (nth (thenL u (D i).gs[m]) i).toNat = some w)
    (hE : AddRes n (i + 1) (thenL (thenL u (D i).gs[m]) (backL w)) D E) : Compl n i C E k (m + 1) := by
  have hl := h.half.lv i (Nat.le_refl _) hi
  have e : E i = D i := hE.went.low i (Nat.lt_succ_self i)
  have hg := List.getElem_mem hm
  have hq : Gen n (D i).gs (thenL (thenL u (D i).gs[m]) (backL w)) := Gen.prod hn hl.gpm ((hl.rcs _ u hu).2.2.mul hg) ((hl.rcs _ w hw).2.2.back hn hl.gpm)
  have hnx : ∀ g ∈ nextGs n D i, g ∈ nextGs n E i := fun g hg => by
    unfold nextGs at hg ⊢
    split at hg
    · rename_i h3; rw [if_pos h3]; exact hE.went.mono _ g hg
    · cases hg
  have hnp : ∀ g ∈ nextGs n E i, Pm n g := fun g hg => by
    unfold nextGs at hg
    split at hg
    · rename_i h3; exact hE.good.gpm (Nat.le_refl _) h3 g hg
    · cases hg
  have hpair : ∀ x g, PairOK n i D x g → PairOK n i E x g := fun x g hp v hv => by
    rw [e] at hv
    obtain ⟨w', h1, h2⟩ := hp v hv
    exact ⟨w', by rw [e]; exact h1, h2.sub hn hnp fun g hg => Gen.of hnp (hnx g hg)⟩
  have hup := hE.went.up hi
  refine ⟨⟨fun j h1 h2 => ?_, fun j h1 h2 => ?_, fun j h1 h2 => hE.good.done j h1 h2⟩, h.went.trans hup, by rw [e]; exact h.gs, by rw [e]; exact h.rcm, ?_, ?_⟩
  · rcases Nat.eq_or_lt_of_le h1 with rfl | h3
    · rw [e]; exact hl
    · exact hE.good.lv j h3 h2
  · rcases Nat.eq_or_lt_of_le h1 with rfl | h3
    · rw [e]
      intro g hg
      exact hE.upper _ hl.gpm (fun j h4 h5 g hg => h.half.nestTo hn (Nat.le_refl _) (by omega) h5 g hg) hq _ (Nat.le_refl _) h2 g hg
    · exact hE.good.nest j h3 h2
  · rw [e]; exact fun x hx g hg => hpair x g (h.all x hx g hg)
  · rw [e]
    intro hk' g hg
    rw [List.take_succ_eq_append_getElem hm] at hg
    rcases List.mem_append.1 hg with h3 | h3
    · exact hpair _ g (h.now hk' g h3)
    · rw [List.mem_singleton.1 h3]
      intro v hv
      rw [e, hu] at hv
      obtain rfl := Option.some.inj hv
      exact ⟨w, by rw [e]; exact hw, hE.has⟩
/-- The product leads to a new point. -/
def reachG (L : Lv) (x : Nat) (v : List Int) : Lv := ⟨L.gs, fun y => if y = x then some v else L.rc y, L.od ++ [x]⟩
theorem Compl.new {k m : Nat} (h : Compl n i C D k m) (hn : n ≤ 1000) (hi : i < n) (hk : k < (D i).od.length) (hm : m < (D i).gs.length) {u : List Int} (hu : (D i).rc (D i).od[k] = some u) (hw : (D i).rc (nth (thenL u (D i).gs[m]) i).toNat = none) :
    Compl n i C (updC D i (reachG (D i) (nth (thenL u (D i).gs[m]) i).toNat (thenL u (D i).gs[m]))) k (m + 1) := by
  obtain ⟨v, hv⟩ : ∃ v, thenL u (D i).gs[m] = v := ⟨_, rfl⟩
  obtain ⟨y, hy⟩ : ∃ y, (nth v i).toNat = y := ⟨_, rfl⟩
  have hl := h.half.lv i (Nat.le_refl _) hi
  have hg := List.getElem_mem hm
  have hgv : Gen n (D i).gs v := by rw [← hv]; exact (hl.rcs _ u hu).2.2.mul hg
  have hV := hgv.pm hn hl.gpm
  have hr := hV.rng hi
  rw [hv, hy] at hw
  rw [hv, hy]
  obtain ⟨E, hE⟩ : ∃ E, updC D i (reachG (D i) y v) = E := ⟨_, rfl⟩
  have e : E i = reachG (D i) y v := by rw [← hE, updC_same]
  have eo : ∀ j, j ≠ i → E j = D j := fun j hj => by rw [← hE, updC_other _ _ hj]
  rw [hE]
  have hrc : ∀ x w, (D i).rc x = some w → (E i).rc x = some w := fun x w hx => by
    rw [e]
    show (if x = y then some v else (D i).rc x) = some w
    rw [if_neg (fun e => by rw [e, hw] at hx; cases hx)]; exact hx
  have hlE : LvG n i (E i) := by
    rw [e]
    refine ⟨hl.gpm, hl.gfix, ?_, fun x w hx => ?_, fun x => ?_, ?_⟩
    · have := hrc i _ hl.base
      rwa [e] at this
    · have hx : (if x = y then some v else (D i).rc x) = some w := hx
      by_cases ex : x = y
      · rw [if_pos ex] at hx
        obtain rfl := Option.some.inj hx
        exact ⟨by omega, by omega, hgv⟩
      · rw [if_neg ex] at hx; exact hl.rcs x w hx
    · show x ∈ (D i).od ++ [y] ↔ (if x = y then some v else (D i).rc x) ≠ none
      rw [List.mem_append, List.mem_singleton, hl.odm]
      by_cases ex : x = y
      · simp [ex]
      · simp [ex]
    · refine List.nodup_append.2 ⟨hl.odn, by simp, fun a ha b hb e2 => ?_⟩
      rw [List.mem_singleton.1 hb] at e2
      rw [e2] at ha
      exact (hl.odm y).1 ha hw
  have hnx : nextGs n E i = nextGs n D i := by unfold nextGs; rw [eo (i + 1) (by omega)]
  have hpair : ∀ x g, x ∈ (D i).od → PairOK n i D x g → PairOK n i E x g := fun x g hx hp z hz => by
    obtain ⟨z2, hz2⟩ := Option.ne_none_iff_exists'.1 ((hl.odm x).1 hx)
    have := hrc x z2 hz2
    rw [hz] at this
    obtain rfl := Option.some.inj this
    obtain ⟨w', h1, h2⟩ := hp z hz2
    exact ⟨w', hrc _ _ h1, by rw [hnx]; exact h2⟩
  have hode : (E i).od = (D i).od ++ [y] := by rw [e]; rfl
  have hgse : (E i).gs = (D i).gs := by rw [e]; rfl
  have hpj : ∀ j, i < j → potC n E j = potC n D j := fun j hj => pot_congr fun k h1 => by rw [eo _ (by omega)]
  have hpi : potC n E i ≤ potC n D i := by
    rw [pot_step (C := E) hi, pot_step (C := D) hi, hpj (i + 1) (Nat.lt_succ_self i), hode, List.length_append]; simp only [List.length_cons, List.length_nil]; omega
  have hwent : Went n i D E := by
    refine ⟨fun j hj => eo j (by omega), fun j g hg => ?_, fun j hj => ?_, fun j hj => ?_⟩
    · by_cases ej : j = i
      · rw [ej] at hg ⊢; rw [hgse]; exact hg
      · rw [eo j ej]; exact hg
    · rcases Nat.eq_or_lt_of_le hj with rfl | h3
      · exact hpi
      · rw [hpj j h3]; exact Nat.le_refl _
    · rcases Nat.eq_or_lt_of_le hj with rfl | h3
      · rw [hgse]; omega
      · rw [hpj j h3, eo j (by omega)]; exact Nat.le_refl _
  refine ⟨⟨fun j h1 h2 => ?_, fun j h1 h2 => ?_, fun j h1 h2 => ?_⟩, h.went.trans hwent, by rw [hgse]; exact h.gs, fun x w hx => hrc x w (h.rcm x w hx), fun x hx g hg => ?_, fun hk' g hg => ?_⟩
  · rcases Nat.eq_or_lt_of_le h1 with rfl | h3
    · exact hlE
    · rw [eo j (by omega)]; exact h.half.lv j h1 h2
  · rw [eo (j + 1) (by omega)]
    rcases Nat.eq_or_lt_of_le h1 with rfl | h3
    · rw [hgse]; exact h.half.nest i h1 h2
    · rw [eo j (by omega)]; exact h.half.nest j h1 h2
  · have : nextGs n E j = nextGs n D j := by unfold nextGs; rw [eo (j + 1) (by omega)]
    rw [eo j (by omega), this]
    exact h.half.done j h1 h2
  · rw [hode, List.take_append_of_le_length (by omega)] at hx
    rw [hgse] at hg
    exact hpair x g (List.mem_of_mem_take hx) (h.all x hx g hg)
  · have ek : (E i).od[k] = (D i).od[k] := by
      have : (E i).od[k]? = (D i).od[k]? := by rw [hode, List.getElem?_append_left hk]
      rw [List.getElem?_eq_getElem hk', List.getElem?_eq_getElem hk] at this
      exact Option.some.inj this
    rw [ek]
    rw [hgse, List.take_succ_eq_append_getElem hm] at hg
    rcases List.mem_append.1 hg with h3 | h3
    · exact hpair _ g (List.getElem_mem hk) (h.now hk g h3)
    · rw [List.mem_singleton.1 h3]
      intro z hz
      have := hrc _ _ hu
      rw [hz] at this
      obtain rfl := Option.some.inj this
      refine ⟨v, ?_, ?_⟩
      · rw [hv, hy, e]
        show (if y = y then some v else (D i).rc y) = some v
        rw [if_pos rfl]
      · rw [hv, pm_mulback hV]; exact .one
end
end Go.Proofs.Ytplekfgadbjgdaa

namespace Go.Proofs.Ytplekfgadbjgdaa
open Go.RowKit Go.Sl

def fact : Nat → Nat
  | 0 => 1
  | n + 1 => (n + 1) * fact n
/-- Strictly ascending. -/
def Asc (l : List Int) : Prop := l.Pairwise (· < ·)
theorem Asc.erase {l : List Int} (h : Asc l) (i : Nat) : Asc (l.eraseIdx i) := List.Pairwise.sublist (List.eraseIdx_sublist l i) h
theorem Asc.lt {l : List Int} (h : Asc l) {i j : Nat} (hij : i < j) (hj : j < l.length) : nth l i < nth l j := by
  rw [nth_lt hj, nth_lt (by omega)]
  exact List.pairwise_iff_getElem.1 h i j (by omega) hj hij
end Go.Proofs.Ytplekfgadbjgdaa

namespace Go.Proofs.Ytplekfgadbjgdaa
open Go.RowKit Go.Sl

def Live (w : World) (L : List (Value × List Int)) : Prop := ∀ p, p ∈ L → Ints w p.1 p.2
theorem Live.below {w w' : World} {L : List (Value × List Int)} (h : Live w L) (hb : Below w.heap.size w w') : Live w' L := fun p hp => (h p hp).below hb
theorem Live.cons {w : World} {L : List (Value × List Int)} {v : Value} {xs : List Int} (h : Live w L) (k : Ints w v xs) : Live w ((v, xs) :: L) := fun p hp => by
  rcases List.mem_cons.1 hp with rfl | h1
  · exact k
  · exact h p h1
end Go.Proofs.Ytplekfgadbjgdaa

namespace Go.Proofs.Ytplekfgadbjgdaa
open Go.ChangeShapes Go.WideShapes Go.ChangeAt Go.RowKit Go.Sl

theorem own_knob : ownKnob Try.prog.godebug = none := by kernel_rfl
theorem laid_out : laidOutB Try.prog = true := by kernel_rfl
theorem cells_int : Try.prog.cellsOf 3 = 1 := by kernel_rfl

theorem wf_bounds {n : Int} (h : (Lit.int .i64 n).wf = true) : I64 n := by
  have h1 : IntKind.i64.min = -9223372036854775808 := rfl
  have h2 : IntKind.i64.max = 9223372036854775807 := rfl
  simp only [Lit.wf, Bool.and_eq_true, decide_eq_true_eq] at h
  unfold I64
  omega

set_option maxRecDepth 100000 in
theorem arg_int {H : Type} {enc : TypeId × Value → H} {W : World} {base b0 : Nat} {v : Value} {d : DataW H} {ps : List MemPlace} (hv : Value.okWide Try.prog W .any base 3 v)
    (h : DataW.Trod enc Try.prog W b0 (fun _ => true) true 3 v d ps) : ∃ n : Int, v = .int .i64 n ∧ I64 n := by
  obtain ⟨n, rfl, _, _, wn⟩ := open_int Try.underlying3 hv h
  exact ⟨n, rfl, wf_bounds wn⟩

end Go.Proofs.Ytplekfgadbjgdaa

namespace Go.Proofs.Ytplekfgadbjgdaa
open Go.ChangeShapes Go.WideShapes Go.ChangeAt Go.RowKit Go.Sl

theorem cells_ints : Try.prog.cellsOf 22 = 1 := by kernel_rfl

set_option maxRecDepth 100000 in
theorem ints_of_trod {H : Type} {enc : TypeId × Value → H} {W : World} {b0 fuel : Nat} {v : Value} {x : DataW H × List MemPlace}
    (h : DataW.trod enc Try.prog W b0 (fun _ => true) true fuel 22 [v] = some x) : ∃ xs : List Int, Ints W v xs ∧ ∀ x ∈ xs, I64 x := by
  rcases open_ints Try.underlying22 Try.underlying3 cells_int h with ⟨hcs, hx⟩ | ⟨a, len, cap, zs, hcs, _, hl, hm, hz, hx, hcell, hwz⟩
  · obtain rfl : v = .slice none 0 0 := by simpa using hcs
    exact ⟨[], ints_nil W, by simp⟩
  · obtain rfl : v = .slice (some a) len cap := by simpa using hcs
    simp only [if_true] at hz
    refine ⟨zs.take len, ⟨⟨rfl, hl, hm, fun h0 => ?_⟩, by simp; omega, fun j u hu => ?_⟩, fun x hx => wf_bounds (hwz x (List.mem_of_mem_take hx))⟩
    · simp only [vcap_mk] at h0
      obtain ⟨b, off, spot⟩ := a
      have hspot : spot = none := by simpa [Addr.add] using World.cell?_spot (hcell 0 (by omega))
      subst hspot
      rfl
    · have hj : j < len := by
        have := (List.getElem?_eq_some_iff.1 hu).1
        simp at this; omega
      obtain ⟨b, off, spot⟩ := a
      have hspot : spot = none := by simpa [Addr.add] using World.cell?_spot (hcell 0 (by omega))
      subst hspot
      have h1 := hcell j (by omega)
      rw [Addr.add_lit] at h1
      rw [vat_mk, h1]
      rw [List.map_take, List.getElem?_take, if_pos hj] at hu
      simp at hu
      obtain ⟨a, ha, rfl⟩ := hu
      simp [List.getD, ha]

set_option maxRecDepth 100000 in
theorem arg_rows {H : Type} {enc : TypeId × Value → H} {W : World} {base b0 : Nat} {v : Value} {d : DataW H} {ps : List MemPlace} (hv : Value.okWide Try.prog W .any base 24 v)
    (h : DataW.Trod enc Try.prog W b0 (fun _ => true) true 24 v d ps) : ∃ xss : List (List Int), Rows2 W v xss ∧ ∀ r ∈ xss, ∀ x ∈ r, I64 x := by
  obtain ⟨a0, len, cap, rfl⟩ := okWide_slice Try.underlying24 hv
  obtain ⟨fuel, hf⟩ := h
  rcases Go.Deep.open_slice1 Try.underlying24 cells_ints hf with ⟨hcs, hx⟩ | ⟨a, len', cap', m, n, V, D, Pl, hcs, _, hl, hm, hmm, hx, hel⟩
  · simp [Value.cells] at hcs
    obtain ⟨rfl, rfl, rfl⟩ := hcs
    exact ⟨[], rows2_nil W, by simp⟩
  · simp [Value.cells] at hcs
    obtain ⟨rfl, rfl, rfl⟩ := hcs
    simp only [if_true] at hmm
    subst hmm
    have h1 : ∀ i, ∃ xs : List Int, i < len → Ints W (V i) xs ∧ ∀ x ∈ xs, I64 x := fun i => by
      by_cases hi : i < len
      · obtain ⟨xs, h⟩ := ints_of_trod (hel i (by omega)).2
        exact ⟨xs, fun _ => h⟩
      · exact ⟨[], fun h => absurd h hi⟩
    obtain ⟨X, hX⟩ := Classical.skolem.1 h1
    refine ⟨(List.range len).map X, ⟨(List.range len).map V, ⟨⟨rfl, hl, hm, fun h0 => ?_⟩, by simp, fun j u hu => ?_⟩, by simp, fun i hi => ?_⟩, fun r hr x hx => ?_⟩
    · simp only [vcap_mk] at h0
      obtain ⟨b, off, spot⟩ := a
      have hspot : spot = none := by simpa [Addr.add] using World.cell?_spot (hel 0 (by omega)).1
      subst hspot
      rfl
    · have hj : j < len := by
        have := (List.getElem?_eq_some_iff.1 hu).1
        simpa using this
      obtain ⟨b, off, spot⟩ := a
      have hspot : spot = none := by simpa [Addr.add] using World.cell?_spot (hel 0 (by omega)).1
      subst hspot
      have h1 := (hel j (by omega)).1
      rw [Addr.add_lit] at h1
      rw [vat_mk]
      rw [List.getElem?_map, List.getElem?_range hj] at hu
      simp at hu
      rw [← hu]; exact h1
    · rw [List.length_map, List.length_range] at hi
      have e1 : nthv ((List.range len).map V) i = V i := by rw [nthv_lt (by simpa using hi)]; simp
      have e2 : nthr ((List.range len).map X) i = X i := by rw [nthr_lt (by simpa using hi)]; simp
      rw [e1, e2]; exact (hX i hi).1
    · obtain ⟨i, hi, rfl⟩ := List.mem_map.1 hr
      exact (hX i (List.mem_range.1 hi)).2 x hx

end Go.Proofs.Ytplekfgadbjgdaa


/- Arguments as data: what a slice of ints or an int that came in reads as. -/
import Derived.Test.YtplekfgadbjgdaaQMatchingCounts0
import Derived.Test.YtplekfgadbjgdaaQMatchingCounts1
import Derived.Test.YtplekfgadbjgdaaQMatchingCounts10
import Derived.Test.YtplekfgadbjgdaaQMatchingCounts11
import Derived.Test.YtplekfgadbjgdaaQMatchingCounts14
import Derived.Lib.SliceRun
import Derived.ArgAppend
import Derived.ProofKit
import Derived.OpenShut
import Derived.Deep.RegionLaw
namespace Go.Proofs.Ytplekfgadbjgdaa
open Go.RowKit Go.Sl

def iota (n : Nat) : List Int := (List.range n).map Int.ofNat
theorem iota_length (n : Nat) : (iota n).length = n := by simp [iota]
theorem nth_iota (n k : Nat) (h : k < n) : nth (iota n) k = k := by rw [nth_lt (by rw [iota_length]; exact h)]; simp [iota]
theorem mem_iota {n : Nat} {x : Int} : x ∈ iota n ↔ 0 ≤ x ∧ x < n := by
  simp only [iota, List.mem_map, List.mem_range]
  constructor
  · rintro ⟨a, h, rfl⟩; simp; omega
  · rintro ⟨h1, h2⟩; exact ⟨x.toNat, by omega, by simp; omega⟩
theorem iota_nodup (n : Nat) : (iota n).Nodup := by
  unfold iota
  rw [List.nodup_iff_pairwise_ne] at *
  rw [List.pairwise_map]
  refine List.Pairwise.imp ?_ List.nodup_range
  intro a b h e
  exact h (Int.ofNat.inj e)
theorem ext_nth {xs ys : List Int} (hl : xs.length = ys.length) (h : ∀ k, k < xs.length → nth xs k = nth ys k) : xs = ys := by
  apply List.ext_getElem hl
  intro j h1 h2
  have := h j h1
  rwa [nth_lt h1, nth_lt h2] at this

def thenL (a b : List Int) : List Int := a.map fun x => nth b x.toNat
theorem thenL_length (a b : List Int) : (thenL a b).length = a.length := by simp [thenL]
theorem nth_thenL (a b : List Int) (k : Nat) (h : k < a.length) : nth (thenL a b) k = nth b (nth a k).toNat := by
  rw [nth_lt (by rw [thenL_length]; exact h)]; simp [thenL, nth_lt h]

/-- A permutation of small degree, as a list. -/
structure IsPerm (xs : List Int) : Prop where
  perm : xs.Perm (iota xs.length)
  small : xs.length ≤ 1000
theorem IsPerm.range {xs : List Int} (h : IsPerm xs) : ∀ x ∈ xs, 0 ≤ x ∧ x < xs.length := fun _ hx => mem_iota.1 (h.perm.mem_iff.1 hx)
theorem IsPerm.nodup {xs : List Int} (h : IsPerm xs) : xs.Nodup := h.perm.nodup_iff.2 (iota_nodup _)
theorem thenL_iota (b : List Int) : thenL (iota b.length) b = b := by
  apply ext_nth (by rw [thenL_length, iota_length])
  intro k hk
  rw [thenL_length, iota_length] at hk
  rw [nth_thenL _ _ _ (by rw [iota_length]; exact hk), nth_iota _ _ hk]; simp
theorem IsPerm.then {a b : List Int} (ha : IsPerm a) (hb : IsPerm b) (hl : a.length = b.length) : IsPerm (thenL a b) := by
  refine ⟨?_, by rw [thenL_length]; exact ha.small⟩
  rw [thenL_length, hl]
  have h1 : (thenL a b).Perm (thenL (iota a.length) b) := ha.perm.map _
  rw [hl, thenL_iota] at h1
  exact h1.trans hb.perm

/-- The first k numbers of a permutation written at their places. -/
def backTo (xs : List Int) (k : Nat) : List Int := (List.range k).foldl (fun acc i => acc.set (nth xs i).toNat i) (List.replicate xs.length 0)
def backL (xs : List Int) : List Int := backTo xs xs.length
theorem backTo_succ (xs : List Int) (k : Nat) : backTo xs (k + 1) = (backTo xs k).set (nth xs k).toNat k := by
  simp [backTo, List.range_succ]
theorem backTo_length (xs : List Int) (k : Nat) : (backTo xs k).length = xs.length := by
  induction k with
  | zero => simp [backTo]
  | succ k ih => rw [backTo_succ]; simp [ih]
theorem backL_length (xs : List Int) : (backL xs).length = xs.length := backTo_length _ _
theorem nth_set_same {xs : List Int} {k : Nat} (x : Int) (h : k < xs.length) : nth (xs.set k x) k = x := by
  rw [nth_lt (by simpa using h)]; simp
theorem nth_set_other {xs : List Int} {k j : Nat} (x : Int) (h : k ≠ j) : nth (xs.set k x) j = nth xs j := by
  simp [nth, List.getElem?_set_ne h]
theorem IsPerm.inj {xs : List Int} (h : IsPerm xs) {i j : Nat} (hi : i < xs.length) (hj : j < xs.length) (e : nth xs i = nth xs j) : i = j := by
  rw [nth_lt hi, nth_lt hj] at e
  exact (List.getElem_inj h.nodup).1 e
theorem backTo_hit {xs : List Int} (h : IsPerm xs) (k : Nat) (hk : k ≤ xs.length) : ∀ j, j < k → nth (backTo xs k) (nth xs j).toNat = j := by
  induction k with
  | zero => intro j hj; omega
  | succ k ih =>
    intro j hj
    have hrk := h.range _ (nth_mem (xs := xs) (k := k) (by omega))
    rw [backTo_succ]
    rcases Nat.lt_or_ge j k with h1 | h1
    · have hrj := h.range _ (nth_mem (xs := xs) (k := j) (by omega))
      rw [nth_set_other _ (fun e => by
        have := h.inj (i := k) (j := j) (by omega) (by omega) (by omega)
        omega)]
      exact ih (by omega) j h1
    · have e : j = k := by omega
      subst e
      rw [nth_set_same _ (by rw [backTo_length]; omega)]
theorem then_back {xs : List Int} (h : IsPerm xs) : thenL xs (backL xs) = iota xs.length := by
  apply ext_nth (by rw [thenL_length, iota_length])
  intro k hk
  rw [thenL_length] at hk
  rw [nth_thenL _ _ _ hk, nth_iota _ _ hk]
  exact backTo_hit h _ (Nat.le_refl _) k hk
theorem IsPerm.back {xs : List Int} (h : IsPerm xs) : IsPerm (backL xs) := by
  refine ⟨?_, by rw [backL_length]; exact h.small⟩
  have h1 : (thenL xs (backL xs)).Perm (thenL (iota xs.length) (backL xs)) := h.perm.map _
  rw [then_back h] at h1
  have h2 := thenL_iota (backL xs)
  rw [backL_length] at h2 ⊢
  rw [h2] at h1
  exact h1.symm

/-! ### The maker of permutations -/
end Go.Proofs.Ytplekfgadbjgdaa

namespace Go.Proofs.Ytplekfgadbjgdaa
open Go.RowKit Go.Sl

def n1 : List Int → Nat
  | [] => 0
  | x :: l => x.natAbs + n1 l
structure LP where
  low : Int
  c : List Int
deriving DecidableEq
structure Trimmed (p : LP) : Prop where
  zero : p.c = [] → p.low = 0
  first : p.c ≠ [] → nth p.c 0 ≠ 0
  last : p.c ≠ [] → nth p.c (p.c.length - 1) ≠ 0
instance (p : LP) : Decidable (Trimmed p) :=
  if h : (p.c = [] → p.low = 0) ∧ (p.c ≠ [] → nth p.c 0 ≠ 0) ∧ (p.c ≠ [] → nth p.c (p.c.length - 1) ≠ 0) then isTrue ⟨h.1, h.2.1, h.2.2⟩ else isFalse fun g => h ⟨g.1, g.2, g.3⟩

theorem nth_nil (k : Nat) : nth [] k = 0 := by simp [nth]
theorem nth_cons_zero (x : Int) (l : List Int) : nth (x :: l) 0 = x := by simp [nth]
theorem nth_cons_succ (x : Int) (l : List Int) (k : Nat) : nth (x :: l) (k + 1) = nth l k := by simp [nth]
theorem n1_nth (l : List Int) (i : Nat) : (nth l i).natAbs ≤ n1 l := by
  induction l generalizing i with
  | nil => rw [nth_nil]; simp
  | cons x l ih =>
    cases i with
    | zero => rw [nth_cons_zero, n1]; omega
    | succ i => rw [nth_cons_succ, n1]; have := ih i; omega
theorem n1_mem {l : List Int} {x : Int} (h : x ∈ l) : x.natAbs ≤ n1 l := by
  obtain ⟨i, hi, rfl⟩ := List.getElem_of_mem h
  rw [← nth_lt hi]; exact n1_nth l i
/-- The exponents of a polynomial lie from lo on, before hi. -/
def Within (p : LP) (lo hi : Int) : Prop := p.c = [] ∨ (lo ≤ p.low ∧ p.low + p.c.length ≤ hi)
theorem Within.mono {p : LP} {lo hi lo' hi' : Int} (h : Within p lo hi) (h1 : lo' ≤ lo) (h2 : hi ≤ hi') : Within p lo' hi' := by
  rcases h with h | h
  · exact .inl h
  · exact .inr (by omega)
end Go.Proofs.Ytplekfgadbjgdaa

namespace Go.Proofs.Ytplekfgadbjgdaa
open Go.RowKit Go.Sl

def nthv (vs : List Value) (i : Nat) : Value := vs.getD i undef
def nthr (xss : List (List Int)) (i : Nat) : List Int := xss.getD i []
theorem nthv_lt {vs : List Value} {i : Nat} (h : i < vs.length) : nthv vs i = vs[i] := by simp [nthv, h]
theorem nthr_lt {xss : List (List Int)} {i : Nat} (h : i < xss.length) : nthr xss i = xss[i] := by simp [nthr, h]
/-- The slice v of slices holds the values vs, which read as the lists xss. -/
def RowsV (w : World) (v : Value) (vs : List Value) (xss : List (List Int)) : Prop := Sl w v 1 vs ∧ vs.length = xss.length ∧ ∀ i, i < xss.length → Ints w (nthv vs i) (nthr xss i)
def Rows2 (w : World) (v : Value) (xss : List (List Int)) : Prop := ∃ vs, RowsV w v vs xss

section
variable {w w' : World} {v : Value} {vs : List Value} {xss : List (List Int)} {B : Nat}
theorem RowsV.isSl (h : RowsV w v vs xss) : IsSl v := h.1.1
theorem RowsV.len (h : RowsV w v vs xss) : vlen v = xss.length := by have := h.1.2.1; rw [h.2.1] at this; omega
theorem RowsV.cell (h : RowsV w v vs xss) {i : Nat} (hi : i < xss.length) : w.cell? (vat v i) = some (nthv vs i) := by
  have := Sl.cell h.1 (j := i) (by rw [h.2.1]; exact hi)
  rw [this, nthv_lt (by rw [h.2.1]; exact hi)]
theorem RowsV.row (h : RowsV w v vs xss) {i : Nat} (hi : i < xss.length) : Ints w (nthv vs i) (nthr xss i) := h.2.2 i hi
theorem RowsV.below (h : RowsV w v vs xss) (hb : Below w.heap.size w w') : RowsV w' v vs xss := ⟨h.1.below hb, h.2.1, fun i hi => (h.2.2 i hi).below hb⟩
theorem RowsV.alloc (h : RowsV w v vs xss) (o : Obj) : RowsV (w.alloc o) v vs xss := h.below ((Below.refl _ _).alloc (Nat.le_refl _) o)
theorem Rows2.isSl (h : Rows2 w v xss) : IsSl v := h.choose_spec.isSl
theorem Rows2.len (h : Rows2 w v xss) : vlen v = xss.length := h.choose_spec.len
theorem Rows2.below (h : Rows2 w v xss) (hb : Below w.heap.size w w') : Rows2 w' v xss := let ⟨vs, h⟩ := h; ⟨vs, h.below hb⟩
/-- The call's own slice of slices: its rows are read, it may be appended to. -/
def OwnR (w : World) (B : Nat) (v : Value) (xss : List (List Int)) : Prop := ∃ vs, Own w B 22 1 v vs ∧ vs.length = xss.length ∧ ∀ i, i < xss.length → Ints w (nthv vs i) (nthr xss i)
theorem OwnR.rows (h : OwnR w B v xss) : Rows2 w v xss := let ⟨vs, a, b, c⟩ := h; ⟨vs, a.sl, b, c⟩
theorem OwnR.isSl (h : OwnR w B v xss) : IsSl v := h.rows.isSl
theorem OwnR.len (h : OwnR w B v xss) : vlen v = xss.length := h.rows.len
theorem OwnR.lt (h : OwnR w B v xss) : ∀ k, row v = some k → B ≤ k ∧ k < w.heap.size := let ⟨_, a, _, _⟩ := h; a.lt
theorem OwnR.below (h : OwnR w B v xss) (hb : Below w.heap.size w w') : OwnR w' B v xss := let ⟨vs, a, b, c⟩ := h; ⟨vs, a.below hb, b, fun i hi => (c i hi).below hb⟩
theorem OwnR.low (h : OwnR w B v xss) {B' : Nat} (hB : B' ≤ B) : OwnR w B' v xss := let ⟨vs, a, b, c⟩ := h; ⟨vs, a.low hB, b, c⟩
/-- No row lies in the slice's own block. -/
def OwnR.apart (w : World) (B : Nat) (v : Value) (xss : List (List Int)) : Prop := ∃ vs, Own w B 22 1 v vs ∧ vs.length = xss.length ∧ (∀ i, i < xss.length → Ints w (nthv vs i) (nthr xss i)) ∧ ∀ i, i < xss.length → 0 < (nthr xss i).length → row v ≠ some (vblk (nthv vs i))
theorem OwnR.apart.own (h : OwnR.apart w B v xss) : OwnR w B v xss := let ⟨vs, a, b, c, _⟩ := h; ⟨vs, a, b, c⟩
theorem OwnR.apart.below (h : OwnR.apart w B v xss) (hb : Below w.heap.size w w') : OwnR.apart w' B v xss := let ⟨vs, a, b, c, d⟩ := h; ⟨vs, a.below hb, b, fun i hi => (c i hi).below hb, d⟩
end

theorem Ints.keep {w w' : World} {v : Value} {xs : List Int} (h : Ints w v xs) {r : Option Nat} (hg : w.grownBy w' r) (hr : 0 < xs.length → r ≠ some (vblk v)) : Ints w' v xs := by
  rcases Nat.eq_zero_or_pos xs.length with h0 | h0
  · obtain rfl := List.eq_nil_of_length_eq_zero h0
    exact ⟨h.1, h.2.1, by simp⟩
  · exact h.grown hg fun k hk e => hr h0 (by rw [hk, e])
end Go.Proofs.Ytplekfgadbjgdaa

namespace Go.Proofs.Ytplekfgadbjgdaa
open Go.RowKit Go.Sl

/-- The slice is the call's own: its cells lie somewhere in a block from B on that is not frozen. -/
def OwnG (w : World) (B : Nat) (e : TypeId) (v : Value) (cs : List Value) : Prop :=
  IsSl v ∧ cs.length = vlen v ∧ (0 < vcap v → B ≤ vblk v ∧ ∃ cur, w.heap[vblk v]? = some (.cells cur e (0, 0)) ∧ voff v + vcap v ≤ cur.size ∧ ∀ j, j < cs.length → cur[voff v + j]? = cs[j]?)
section
variable {w w' : World} {B : Nat} {e : TypeId} {v : Value} {cs : List Value}
theorem OwnG.isSl (h : OwnG w B e v cs) : IsSl v := h.1
theorem OwnG.len (h : OwnG w B e v cs) : vlen v = cs.length := h.2.1.symm
theorem OwnG.cap_of (h : OwnG w B e v cs) {j : Nat} (hj : j < cs.length) : 0 < vcap v := by have := h.1.le; have := h.2.1; omega
theorem ownG_nil (w : World) (B : Nat) (e : TypeId) : OwnG w B e (.slice none 0 0) [] := ⟨isSl_nil, by simp, by simp⟩
theorem own_G (h : Own w B e 1 v cs) : OwnG w B e v cs := by
  refine ⟨h.1, by have := h.2.1; omega, fun h0 => ?_⟩
  obtain ⟨a, b, cur, c, d, f⟩ := h.2.2 h0
  refine ⟨a, cur, c, by omega, fun j hj => ?_⟩
  have h1 : (cur.toList.take cs.length)[j]? = cs[j]? := by rw [f]
  rw [List.getElem?_take, if_pos hj] at h1
  rw [b, Nat.zero_add]
  simpa using h1
theorem OwnG.cell (h : OwnG w B e v cs) {j : Nat} (hj : j < cs.length) : w.cell? (vat v j) = some cs[j] := by
  obtain ⟨_, cur, hh, _, hc⟩ := h.2.2 (h.cap_of hj)
  have := hc j hj
  rw [List.getElem?_eq_getElem hj] at this
  simp [World.cell?, vat, hh, this]
theorem OwnG.sl (h : OwnG w B e v cs) : Sl w v 1 cs := by
  refine ⟨h.1, by have := h.2.1; omega, fun j u hu => ?_⟩
  have hj := (List.getElem?_eq_some_iff.1 hu).1
  rw [h.cell hj]
  rw [List.getElem?_eq_getElem hj] at hu
  exact hu
theorem OwnG.frozen (h : OwnG w B e v cs) {j : Nat} (hj : j < vcap v) : w.frozen? (vat v j) = false := by
  obtain ⟨_, cur, hh, _⟩ := h.2.2 (by omega)
  simp [World.frozen?, vat, hh]
theorem OwnG.there (h : OwnG w B e v cs) {j : Nat} (hj : j < vcap v) : (w.cell? (vat v j)).isSome = true := by
  obtain ⟨_, cur, hh, hs, _⟩ := h.2.2 (by omega)
  simp [World.cell?, vat, hh]
  omega
theorem OwnG.ge (h : OwnG w B e v cs) (h0 : 0 < vcap v) (j : Nat) : B ≤ (vat v j).block := (h.2.2 h0).1
theorem OwnG.lt (h : OwnG w B e v cs) : ∀ k, row v = some k → B ≤ k ∧ k < w.heap.size := by
  intro k hk
  obtain ⟨h0, rfl⟩ := row_eq hk
  obtain ⟨hB, cur, hh, _⟩ := h.2.2 h0
  exact ⟨hB, (Array.getElem?_eq_some_iff.1 hh).1⟩
theorem OwnG.low (h : OwnG w B e v cs) {B' : Nat} (hB : B' ≤ B) : OwnG w B' e v cs := ⟨h.1, h.2.1, fun h0 => let ⟨a, b⟩ := h.2.2 h0; ⟨Nat.le_trans hB a, b⟩⟩
theorem OwnG.of_block (h : OwnG w B e v cs) (hb : ∀ k, row v = some k → w'.heap[k]? = w.heap[k]?) : OwnG w' B e v cs :=
  ⟨h.1, h.2.1, fun h0 => by
    obtain ⟨a, cur, c, d⟩ := h.2.2 h0
    exact ⟨a, cur, by rw [hb _ (row_some h0)]; exact c, d⟩⟩
theorem OwnG.below (h : OwnG w B e v cs) (hb : Below w.heap.size w w') : OwnG w' B e v cs := h.of_block fun k hk => hb.block _ (h.lt k hk).2
theorem OwnG.alloc (h : OwnG w B e v cs) (o : Obj) : OwnG (w.alloc o) B e v cs := h.of_block fun k hk => Below.heap_alloc w o _ (h.lt k hk).2
theorem OwnG.setOther (h : OwnG w B e v cs) {p : Addr} (hp : ∀ k, row v = some k → p.block ≠ k) (u : Value) : OwnG (w.setCell p u) B e v cs :=
  h.of_block fun k hk => Below.heap_setCell w p u k (fun e => hp k hk e.symm)
theorem OwnG.grown (h : OwnG w B e v cs) {r : Option Nat} (hg : w.grownBy w' r) (hr : ∀ k, row v = some k → r ≠ some k) : OwnG w' B e v cs :=
  h.of_block fun k hk => hg.block _ (h.lt k hk).2 (fun e => hr k hk e.symm)
theorem OwnG.set (h : OwnG w B e v cs) {j : Nat} (hj : j < cs.length) (u : Value) : OwnG (w.setCell (vat v j) u) B e v (cs.set j u) := by
  refine ⟨h.1, by rw [List.length_set]; exact h.2.1, fun h0 => ?_⟩
  obtain ⟨hB, cur, hh, hs, hc⟩ := h.2.2 h0
  have hle := h.1.le
  have hl := h.2.1
  refine ⟨hB, cur.setIfInBounds (voff v + j) u, ?_, by simpa using hs, fun i hi => ?_⟩
  · simp [World.setCell, vat, Array.getElem?_modify, hh]
  · rw [List.length_set] at hi
    by_cases e1 : i = j
    · subst e1
      rw [Array.getElem?_setIfInBounds_self_of_lt (by omega), List.getElem?_set_self hj]
    · rw [Array.getElem?_setIfInBounds_ne (by omega), List.getElem?_set_ne (fun e => e1 e.symm)]
      exact hc i hi
/-- The slice without its first element. -/
theorem OwnG.tail {c : Value} (h : OwnG w B e v (c :: cs)) : OwnG w B e (vcut v 1 (vlen v) (vcap v) 1) cs := by
  have hl := h.2.1
  have hle := h.1.le
  rw [List.length_cons] at hl
  refine ⟨isSl_cut h.1 (by omega) hle (Nat.le_refl _), by rw [vlen_cut]; omega, fun h0 => ?_⟩
  rw [vcap_cut] at h0
  obtain ⟨hB, cur, hh, hs, hc⟩ := h.2.2 (by omega)
  have h1 := vat_cut h.1 (l := 1) (h := vlen v) (m := vcap v) (s := 1) 0 (by omega) (Nat.le_refl _)
  have eb : vblk (vcut v 1 (vlen v) (vcap v) 1) = vblk v := by have := congrArg Addr.block h1; rwa [vat_block, vat_block] at this
  have eo : voff (vcut v 1 (vlen v) (vcap v) 1) = voff v + 1 := by
    have := congrArg Addr.off h1
    simpa [vat] using this
  refine ⟨by rw [eb]; exact hB, cur, by rw [eb]; exact hh, by rw [eo, vcap_cut]; omega, fun j hj => ?_⟩
  rw [eo, show voff v + 1 + j = voff v + (j + 1) by omega, hc (j + 1) (by simp; omega)]
  simp
/-- The slice's first k elements. -/
theorem OwnG.head (h : OwnG w B e v cs) {k : Nat} (hk : k ≤ cs.length) : OwnG w B e (vcut v 0 k (vcap v) 1) (cs.take k) := by
  have hl := h.2.1
  have hle := h.1.le
  refine ⟨isSl_cut h.1 (by omega) (by omega) (Nat.le_refl _), by rw [vlen_cut, List.length_take]; omega, fun h0 => ?_⟩
  rw [vcap_cut] at h0
  obtain ⟨hB, cur, hh, hs, hc⟩ := h.2.2 (by omega)
  have h1 := vat_cut h.1 (l := 0) (h := k) (m := vcap v) (s := 1) 0 (by omega) (Nat.le_refl _)
  have eb : vblk (vcut v 0 k (vcap v) 1) = vblk v := by have := congrArg Addr.block h1; rwa [vat_block, vat_block] at this
  have eo : voff (vcut v 0 k (vcap v) 1) = voff v := by
    have := congrArg Addr.off h1
    simpa [vat] using this
  refine ⟨by rw [eb]; exact hB, cur, by rw [eb]; exact hh, by rw [eo, vcap_cut]; omega, fun j hj => ?_⟩
  rw [List.length_take] at hj
  rw [eo, hc j (by omega), List.getElem?_take, if_pos (by omega)]
theorem row_tail {v : Value} (hv : IsSl v) : ∀ k, row (vcut v 1 (vlen v) (vcap v) 1) = some k → row v = some k := by
  intro k hk
  obtain ⟨h0, h1⟩ := row_eq hk
  rw [vcap_cut] at h0
  rw [row_some (by omega), ← h1]
  have := congrArg Addr.block (vat_cut hv (l := 1) (h := vlen v) (m := vcap v) (s := 1) 0 (by omega) (Nat.le_refl _))
  rw [vat_block, vat_block] at this
  rw [this]
end

end Go.Proofs.Ytplekfgadbjgdaa

namespace Go.Proofs.Ytplekfgadbjgdaa
open Go.RowKit Go.Sl

def fact : Nat → Nat
  | 0 => 1
  | n + 1 => (n + 1) * fact n
/-- How many of the numbers are smaller. -/
def less (xs : List Int) (x : Int) : Nat := (xs.filter fun y => decide (y < x)).length
/-- The rank, from the first element on. -/
def rk : List Int → Nat
  | [] => 0
  | x :: xs => less xs x * fact xs.length + rk xs
/-- Strictly ascending. -/
def Asc (l : List Int) : Prop := l.Pairwise (· < ·)
theorem Asc.lt {l : List Int} (h : Asc l) {i j : Nat} (hij : i < j) (hj : j < l.length) : nth l i < nth l j := by
  rw [nth_lt hj, nth_lt (by omega)]
  exact List.pairwise_iff_getElem.1 h i j (by omega) hj hij
/-- The comparison of lists: -1, 0, 1. -/
def cmpL : List Int → List Int → Int
  | [], [] => 0
  | [], _ :: _ => -1
  | _ :: _, [] => 1
  | x :: xs, y :: ys => if x < y then -1 else if y < x then 1 else cmpL xs ys
end Go.Proofs.Ytplekfgadbjgdaa

namespace Go.Proofs.Ytplekfgadbjgdaa
open Go.RowKit Go.Sl

theorem grown_setCell {w w1 : World} {r : Option Nat} (h : w.grownBy w1 r) {p : Addr} (hp : r = some p.block) (u : Value) : w.grownBy (w1.setCell p u) r :=
  ⟨h.os, h.tape, h.output, by simpa using h.size, fun k hk hr => (Below.heap_setCell w1 p u k (fun e => hr (by rw [hp, e]))).trans (h.block k hk hr)⟩

end Go.Proofs.Ytplekfgadbjgdaa

namespace Go.Proofs.Ytplekfgadbjgdaa
open Go.RowKit Go.Sl

def invL (xs : List Int) : List Int := (xs.map (- ·)).reverse
/-- No letter beside its inverse. -/
def Rd : List Int → Prop
  | [] => True
  | [_] => True
  | y :: z :: t => z ≠ -y ∧ Rd (z :: t)

theorem Rd.tail {y : Int} {t : List Int} (h : Rd (y :: t)) : Rd t := by
  cases t with
  | nil => trivial
  | cons z t => exact h.2
end Go.Proofs.Ytplekfgadbjgdaa

namespace Go.Proofs.Ytplekfgadbjgdaa
open Go.RowKit Go.Sl

def Colors (m : Int) (c : List Int) : Prop := ∀ x ∈ c, 0 ≤ x ∧ x < m

end Go.Proofs.Ytplekfgadbjgdaa

namespace Go.Proofs.Ytplekfgadbjgdaa
open Go.RowKit Go.Sl

def low : Nat → Nat → Nat
  | 0, _ => 0
  | f + 1, r => if r % 2 = 1 then 0 else low f (r / 2) + 1
end Go.Proofs.Ytplekfgadbjgdaa

namespace Go.Proofs.Ytplekfgadbjgdaa
open Go.RowKit Go.Sl

/-- No two neighbouring exchanges. -/
def Apart (c : Nat) : Prop := ∀ j, c.testBit j = true → c.testBit (j + 1) = false
end Go.Proofs.Ytplekfgadbjgdaa

namespace Go.Proofs.Ytplekfgadbjgdaa
open Go.ChangeShapes Go.WideShapes Go.ChangeAt Go.RowKit Go.Sl

theorem own_knob : ownKnob Try.prog.godebug = none := by kernel_rfl
theorem laid_out : laidOutB Try.prog = true := by kernel_rfl
theorem cells_int : Try.prog.cellsOf 3 = 1 := by kernel_rfl

theorem wf_bounds {n : Int} (h : (Lit.int .i64 n).wf = true) : I64 n := by
  have h1 : IntKind.i64.min = -9223372036854775808 := rfl
  have h2 : IntKind.i64.max = 9223372036854775807 := rfl
  simp only [Lit.wf, Bool.and_eq_true, decide_eq_true_eq] at h
  unfold I64
  omega

set_option maxRecDepth 100000 in
theorem arg_int {H : Type} {enc : TypeId × Value → H} {W : World} {base b0 : Nat} {v : Value} {d : DataW H} {ps : List MemPlace} (hv : Value.okWide Try.prog W .any base 3 v)
    (h : DataW.Trod enc Try.prog W b0 (fun _ => true) true 3 v d ps) : ∃ n : Int, v = .int .i64 n ∧ I64 n := by
  obtain ⟨n, rfl, _, _, wn⟩ := open_int Try.underlying3 hv h
  exact ⟨n, rfl, wf_bounds wn⟩

set_option maxRecDepth 100000 in
theorem arg_ints {H : Type} {enc : TypeId × Value → H} {W : World} {base b0 : Nat} {v : Value} {d : DataW H} {ps : List MemPlace} (hv : Value.okWide Try.prog W .any base 22 v)
    (h : DataW.Trod enc Try.prog W b0 (fun _ => true) true 22 v d ps) : ∃ xs : List Int, Ints W v xs ∧ ∀ x ∈ xs, I64 x := by
  obtain ⟨a0, len, cap, rfl⟩ := okWide_slice Try.underlying22 hv
  obtain ⟨fuel, hf⟩ := h
  rcases open_ints Try.underlying22 Try.underlying3 cells_int hf with ⟨hcs, hx⟩ | ⟨a, len', cap', zs, hcs, _, hl, hm, hz, hx, hcell, hwz⟩
  · simp [Value.cells] at hcs
    obtain ⟨rfl, rfl, rfl⟩ := hcs
    exact ⟨[], ints_nil W, by simp⟩
  · simp [Value.cells] at hcs
    obtain ⟨rfl, rfl, rfl⟩ := hcs
    simp only [if_true] at hz
    refine ⟨zs.take len, ⟨⟨rfl, hl, hm, fun h0 => ?_⟩, by simp; omega, fun j u hu => ?_⟩, fun x hx => wf_bounds (hwz x (List.mem_of_mem_take hx))⟩
    · simp only [vcap_mk] at h0
      obtain ⟨b, off, spot⟩ := a
      have hspot : spot = none := by simpa [Addr.add] using World.cell?_spot (hcell 0 (by omega))
      subst hspot
      rfl
    · have hj : j < len := by
        have := (List.getElem?_eq_some_iff.1 hu).1
        simp at this; omega
      obtain ⟨b, off, spot⟩ := a
      have hspot : spot = none := by simpa [Addr.add] using World.cell?_spot (hcell 0 (by omega))
      subst hspot
      have h1 := hcell j (by omega)
      rw [Addr.add_lit] at h1
      rw [vat_mk, h1]
      rw [List.map_take, List.getElem?_take, if_pos hj] at hu
      simp at hu
      obtain ⟨a, ha, rfl⟩ := hu
      simp [List.getD, ha]

end Go.Proofs.Ytplekfgadbjgdaa


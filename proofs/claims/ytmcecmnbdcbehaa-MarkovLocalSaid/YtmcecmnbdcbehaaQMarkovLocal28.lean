/- The images of the generators: conjugates of generators, as the permutation says; their product. -/
import Derived.Test.YtmcecmnbdcbehaaQMarkovLocal0
import Derived.Test.YtmcecmnbdcbehaaQMarkovLocal1
import Derived.Test.YtmcecmnbdcbehaaQMarkovLocal2
import Derived.Test.YtmcecmnbdcbehaaQMarkovLocal3
import Derived.Test.YtmcecmnbdcbehaaQMarkovLocal4
import Derived.Test.YtmcecmnbdcbehaaQMarkovLocal5
import Derived.Test.YtmcecmnbdcbehaaQMarkovLocal6
import Derived.Test.YtmcecmnbdcbehaaQMarkovLocal7
import Derived.Test.YtmcecmnbdcbehaaQMarkovLocal9
import Derived.Test.YtmcecmnbdcbehaaQMarkovLocal10
import Derived.Test.YtmcecmnbdcbehaaQMarkovLocal11
import Derived.Test.YtmcecmnbdcbehaaQMarkovLocal12
import Derived.Test.YtmcecmnbdcbehaaQMarkovLocal13
import Derived.Test.YtmcecmnbdcbehaaQMarkovLocal14
import Derived.Test.YtmcecmnbdcbehaaQMarkovLocal24
import Derived.Test.YtmcecmnbdcbehaaQMarkovLocal25
import Derived.RangeFuncNested
import Derived.RangeFuncBound
import Derived.RangeFuncCalls
import Derived.RangeFuncLeaves
import Derived.RangeFuncBox
import Derived.Shelf.Abstract
import Derived.Shelf.RegionOpen
import Derived.OwnWalkIn
import Derived.TacticsInMore
import Derived.LoopNIn
import Derived.LoopIn
import Derived.Maps.AppendAt
import Derived.OrdersIn
import Derived.OrdersHeld
import Derived.Deep.RegionHeld
namespace Go.Proofs.Ytmcecmnbdcbehaa

/-- Two words that are equal as braids. -/
def WEq (n : Nat) (u v : List Int) : Prop := ∀ s : St, Good n s.2 → Eqv n (mulW n s u) (mulW n s v)
def LtW (n : Nat) (u : List Int) : Prop := ∀ x ∈ u, Lt n x

theorem WEq.refl (n : Nat) (u : List Int) : WEq n u u := fun _ _ => .refl _
theorem WEq.symm {n : Nat} {u v : List Int} (h : WEq n u v) : WEq n v u := fun s g => (h s g).symm
theorem WEq.trans {n : Nat} {u v x : List Int} (h : WEq n u v) (k : WEq n v x) : WEq n u x := fun s g => (h s g).trans (k s g)
theorem WEq.append {n : Nat} (hn : n ≤ 1000) {u v x y : List Int} (h : WEq n u v) (k : WEq n x y) (hu : LtW n u) (hx : LtW n x) (hy : LtW n y) : WEq n (u ++ x) (v ++ y) := fun s g => by
  rw [mulW_append, mulW_append]
  exact (k _ (mulW_good hn u s hu g)).trans (eqv_mulW hn y hy (h s g))
theorem WEq.pre {n : Nat} (hn : n ≤ 1000) {x y : List Int} (p : List Int) (k : WEq n x y) (hp : LtW n p) : WEq n (p ++ x) (p ++ y) := fun s g => by
  rw [mulW_append, mulW_append]
  exact k _ (mulW_good hn p s hp g)
theorem WEq.post {n : Nat} (hn : n ≤ 1000) {x y : List Int} (k : WEq n x y) (q : List Int) (hq : LtW n q) : WEq n (x ++ q) (y ++ q) := fun s g => by
  rw [mulW_append, mulW_append]
  exact eqv_mulW hn q hq (k s g)
theorem LtW.app {n : Nat} {u v : List Int} (h : LtW n u) (k : LtW n v) : LtW n (u ++ v) := fun x hx => (List.mem_append.1 hx).elim (h x) (k x)
theorem lt_neg {n : Nat} {x : Int} (h : Lt n x) : Lt n (-x) := ⟨by have := h.1; omega, by rw [Int.natAbs_neg]; exact h.2⟩
theorem ltW_1 {n : Nat} {x : Int} (h : Lt n x) : LtW n [x] := fun y hy => by simp at hy; subst hy; exact h
theorem ltW_2 {n : Nat} {x y : Int} (h : Lt n x) (k : Lt n y) : LtW n [x, y] := LtW.app (ltW_1 h) (ltW_1 k)
theorem ltW_3 {n : Nat} {x y z : Int} (h : Lt n x) (k : Lt n y) (l : Lt n z) : LtW n [x, y, z] := LtW.app (ltW_1 h) (ltW_2 k l)

theorem weq_cancel {n : Nat} (hn : n ≤ 1000) {x : Int} (hx : Lt n x) : WEq n [x, -x] [] := fun _ g => cancel hn hx g
theorem weq_cancel' {n : Nat} (hn : n ≤ 1000) {x : Int} (hx : Lt n x) : WEq n [-x, x] [] := fun _ g => cancel' hn hx g
theorem weq_inv {n : Nat} (hn : n ≤ 1000) {u v : List Int} (hu : LtW n u) (hv : LtW n v) (h : WEq n u v) : WEq n (invW u) (invW v) := fun s g => by
  have gu : Good n (mulW n s (invW u)).2 := mulW_good hn _ s (invW_lt hu) g
  have e1 : Eqv n (mulW n (mulW n (mulW n s (invW u)) v) (invW v)) (mulW n s (invW u)) := mulW_inv hn v hv gu
  have e2 : Eqv n (mulW n (mulW n (mulW n s (invW u)) u) (invW v)) (mulW n (mulW n (mulW n s (invW u)) v) (invW v)) := eqv_mulW hn _ (invW_lt hv) (h _ gu)
  have e3 : Eqv n (mulW n (mulW n s (invW u)) u) s := by
    have := mulW_inv hn (invW u) (invW_lt hu) g
    have e : invW (invW u) = u := by unfold invW; simp [List.map_reverse, Function.comp_def]
    rwa [e] at this
  exact e1.symm.trans (e2.symm.trans (eqv_mulW hn _ (invW_lt hv) e3))

/-- Letters that commute also commute after one of them is inverted. -/
theorem weq_flip {n : Nat} (hn : n ≤ 1000) {x y : Int} (hx : Lt n x) (hy : Lt n y) (h : WEq n [x, y] [y, x]) : WEq n [-x, y] [y, -x] := by
  have hx' := lt_neg hx
  have a1 : WEq n ([-x, y] ++ [x, -x]) [-x, y] := by
    have := WEq.pre hn [-x, y] (weq_cancel hn hx) (ltW_2 hx' hy)
    simpa using this
  have a2 : WEq n ([-x] ++ [y, x] ++ [-x]) ([-x] ++ [x, y] ++ [-x]) := WEq.post hn (WEq.pre hn [-x] h.symm (ltW_1 hx')) [-x] (ltW_1 hx')
  have a3 : WEq n ([-x, x] ++ [y, -x]) ([] ++ [y, -x]) := WEq.post hn (weq_cancel' hn hx) _ (ltW_2 hy hx')
  exact a1.symm.trans (a2.trans a3)
theorem weq_far {n : Nat} (hn : n ≤ 1000) {x y : Int} (hx : Lt n x) (hy : Lt n y) (h : (x.natAbs : Int) - y.natAbs ≥ 2 ∨ (x.natAbs : Int) - y.natAbs ≤ -2) : WEq n [x, y] [y, x] := by
  have pos : ∀ i j : Nat, i + 1 < n → j + 1 < n → (i + 1 < j ∨ j + 1 < i) → WEq n [(i : Int) + 1, (j : Int) + 1] [(j : Int) + 1, (i : Int) + 1] := fun i j hi hj h s g => far_mul hn hi hj h g
  obtain ⟨i, hi⟩ : ∃ i, x.natAbs = i + 1 := ⟨x.natAbs - 1, by have := hx.1; omega⟩
  obtain ⟨j, hj⟩ : ∃ j, y.natAbs = j + 1 := ⟨y.natAbs - 1, by have := hy.1; omega⟩
  have hxn := hx.2; have hyn := hy.2
  have hp := pos i j (by omega) (by omega) (by omega)
  have li : Lt n ((i : Int) + 1) := ⟨by omega, by omega⟩
  have lj : Lt n ((j : Int) + 1) := ⟨by omega, by omega⟩
  rcases (show x = (i : Int) + 1 ∨ x = -((i : Int) + 1) by omega) with e | e <;> rcases (show y = (j : Int) + 1 ∨ y = -((j : Int) + 1) by omega) with f | f <;> rw [e, f]
  · exact hp
  · exact (weq_flip hn lj li hp.symm).symm
  · exact weq_flip hn li lj hp
  · exact weq_flip hn li (lt_neg lj) (weq_flip hn lj li hp.symm).symm
theorem weq_slide_pos {n : Nat} (hn : n ≤ 1000) {x y : Int} (hx : 0 < x ∧ x < n) (hy : 0 < y ∧ y < n) (h : x - y = 1 ∨ x - y = -1) : WEq n [x, y, x] [y, x, y] := by
  rcases h with h | h
  · obtain ⟨i, hi⟩ : ∃ i : Nat, y = (i : Int) + 1 := ⟨(y - 1).toNat, by omega⟩
    have hx2 : x = (i : Int) + 1 + 1 := by omega
    rw [hx2, hi]
    exact fun s g => (braid_mul hn (by omega) g).symm
  · obtain ⟨i, hi⟩ : ∃ i : Nat, x = (i : Int) + 1 := ⟨(x - 1).toNat, by omega⟩
    have hy2 : y = (i : Int) + 1 + 1 := by omega
    rw [hy2, hi]
    exact fun s g => braid_mul hn (by omega) g
theorem weq_slide {n : Nat} (hn : n ≤ 1000) {x y : Int} (hx : Lt n x) (hy : Lt n y) (hs : x > 0 ↔ y > 0) (h : x - y = 1 ∨ x - y = -1) : WEq n [x, y, x] [y, x, y] := by
  have a1 := hx.1; have a2 := hx.2; have b1 := hy.1; have b2 := hy.2
  by_cases p : x > 0
  · have q := hs.1 p
    exact weq_slide_pos hn ⟨p, by omega⟩ ⟨q, by omega⟩ h
  · have q : ¬ y > 0 := fun q => p (hs.2 q)
    have e := weq_inv hn (ltW_3 (lt_neg hx) (lt_neg hy) (lt_neg hx)) (ltW_3 (lt_neg hy) (lt_neg hx) (lt_neg hy)) (weq_slide_pos hn (x := -x) (y := -y) ⟨by omega, by omega⟩ ⟨by omega, by omega⟩ (by omega))
    simpa [invW] using e

theorem take_two {xs : List Int} {j : Nat} (h : j + 2 ≤ xs.length) : xs.take j ++ [nth xs j, nth xs (j + 1)] ++ xs.drop (j + 2) = xs := by
  rw [nth_lt (show j < xs.length by omega), nth_lt (show j + 1 < xs.length by omega), List.append_assoc]
  have e : xs.drop j = xs[j] :: xs[j + 1] :: xs.drop (j + 2) := by
    rw [List.drop_eq_getElem_cons (show j < xs.length by omega), List.drop_eq_getElem_cons (show j + 1 < xs.length by omega)]
  have : [xs[j], xs[j + 1]] ++ xs.drop (j + 2) = xs.drop j := by rw [e]; rfl
  rw [this, List.take_append_drop]
theorem take_three {xs : List Int} {j : Nat} (h : j + 3 ≤ xs.length) : xs.take j ++ [nth xs j, nth xs (j + 1), nth xs (j + 2)] ++ xs.drop (j + 3) = xs := by
  rw [nth_lt (show j < xs.length by omega), nth_lt (show j + 1 < xs.length by omega), nth_lt (show j + 2 < xs.length by omega), List.append_assoc]
  have e : xs.drop j = xs[j] :: xs[j + 1] :: xs[j + 2] :: xs.drop (j + 3) := by
    rw [List.drop_eq_getElem_cons (show j < xs.length by omega), List.drop_eq_getElem_cons (show j + 1 < xs.length by omega), List.drop_eq_getElem_cons (show j + 2 < xs.length by omega)]
  have : [xs[j], xs[j + 1], xs[j + 2]] ++ xs.drop (j + 3) = xs.drop j := by rw [e]; rfl
  rw [this, List.take_append_drop]
theorem nth_mid (a b c : List Int) (i : Nat) (h : i < b.length) : nth (a ++ b ++ c) (a.length + i) = nth b i := by
  unfold nth
  rw [List.getD_eq_getElem?_getD, List.getD_eq_getElem?_getD, List.append_assoc, List.getElem?_append_right (by omega), List.getElem?_append_left (by omega)]
  congr 2; omega
theorem take_mid (a b c : List Int) : (a ++ b ++ c).take a.length = a := by simp [List.append_assoc]
theorem drop_mid (a b c : List Int) (k : Nat) (h : k = a.length + b.length) : (a ++ b ++ c).drop k = c := by
  subst h; rw [← List.length_append, List.drop_left]

/-- A local move leads to a word that is equal as a braid, of letters that are allowed, and to no other error. -/
theorem local_eq {n : Nat} (hn : n ≤ 1000) {xs : List Int} (hx : BWord n xs) {k j : Nat} {l : Int} (hins : k = 1 → l ≠ 0 ∧ -n < l ∧ l < n) (hk1 : 1 ≤ k) (hk4 : k ≤ 4) (h : (mlocal xs k j l).2 = 0) :
    BWord n (mlocal xs k j l).1 ∧ WEq n xs (mlocal xs k j l).1 := by
  have hlt : LtW n xs := fun x hm => by have := hx x hm; exact ⟨this.1, by omega⟩
  have hT : LtW n (xs.take j) := fun x hm => hlt x (List.mem_of_mem_take hm)
  have hD : ∀ m, LtW n (xs.drop m) := fun m x hm => hlt x (List.mem_of_mem_drop hm)
  have hN : ∀ i, i < xs.length → Lt n (nth xs i) := fun i hi => hlt _ (nth_mem hi)
  have back : ∀ u, LtW n u → BWord n u := fun u hu x hm => by have := hu x hm; exact ⟨this.1, by have := this.2; omega, by have := this.2; omega⟩
  unfold mlocal at h ⊢
  by_cases h0 : xs.length < j + mcnt k
  · rw [if_pos h0] at h; cases h
  · rw [if_neg h0] at h ⊢
    cases hm : mnext xs k j l with
    | none => rw [hm] at h; cases h
    | some ys =>
      simp only
      clear h
      have key : LtW n ys ∧ ∃ zs, WEq n zs ys ∧ xs.take j ++ zs ++ xs.drop (j + mcnt k) = xs := by
        unfold mnext at hm
        split at hm
        · rename_i e
          injection hm with hm; subst hm
          have hl := hins e
          have ll : Lt n l := ⟨hl.1, by omega⟩
          refine ⟨ltW_2 ll (lt_neg ll), [], (weq_cancel hn ll).symm, ?_⟩
          subst e; simp [mcnt]
        · split at hm
          · rename_i e
            split at hm
            · rename_i e2
              injection hm with hm; subst hm
              subst e
              have h2 : j + 2 ≤ xs.length := by simp [mcnt] at h0; omega
              refine ⟨fun x hx => (by cases hx), [nth xs j, nth xs (j + 1)], ?_, take_two h2⟩
              have e3 : nth xs (j + 1) = -nth xs j := by omega
              rw [e3]
              exact weq_cancel hn (hN j (by omega))
            · cases hm
          · split at hm
            · rename_i e
              split at hm
              · rename_i e2
                injection hm with hm; subst hm
                subst e
                have h2 : j + 2 ≤ xs.length := by simp [mcnt] at h0; omega
                have l1 := hN j (by omega); have l2 := hN (j + 1) (by omega)
                exact ⟨ltW_2 l2 l1, [nth xs j, nth xs (j + 1)], weq_far hn l1 l2 e2, take_two h2⟩
              · cases hm
            · split at hm
              · rename_i e2
                injection hm with hm; subst hm
                have e : k = 4 := by omega
                subst e
                have h2 : j + 3 ≤ xs.length := by simp [mcnt] at h0; omega
                have l1 := hN j (by omega); have l2 := hN (j + 1) (by omega)
                refine ⟨ltW_3 l2 l1 l2, [nth xs j, nth xs (j + 1), nth xs (j + 2)], ?_, take_three h2⟩
                rw [← e2.1]
                exact weq_slide hn l1 l2 e2.2.1 e2.2.2
              · cases hm
      obtain ⟨hys, zs, hw, hz⟩ := key
      refine ⟨back _ ((hT.app hys).app (hD _)), ?_⟩
      have := WEq.post hn (WEq.pre hn (xs.take j) hw hT) (xs.drop (j + mcnt k)) (hD _)
      rwa [hz] at this

/-- What Undo returns for a move: kind, index, letter. -/
def mundo (xs : List Int) (k j : Nat) (l : Int) : Nat × Nat × Int :=
  if k = 1 then (2, j, 0)
  else if k = 2 then (1, j, nth xs j)
  else if k = 6 then (7, 0, 0)
  else if k = 7 then (6, 0, if 0 < nth xs (xs.length - 1) then 1 else -1)
  else (k, j, 0)

theorem local_back {n : Nat} {xs : List Int} {k j : Nat} {l : Int} (hk1 : 1 ≤ k) (hk4 : k ≤ 4) (h : (mlocal xs k j l).2 = 0) :
    mlocal (mlocal xs k j l).1 (mundo xs k j l).1 (mundo xs k j l).2.1 (mundo xs k j l).2.2 = (xs, 0) := by
  unfold mlocal at h
  by_cases h0 : xs.length < j + mcnt k
  · rw [if_pos h0] at h; cases h
  · rw [if_neg h0] at h
    have hlen : (xs.take j).length = j := by rw [List.length_take]; omega
    cases hm : mnext xs k j l with
    | none => rw [hm] at h; cases h
    | some ys =>
      clear h
      have e1 : (mlocal xs k j l).1 = xs.take j ++ ys ++ xs.drop (j + mcnt k) := by unfold mlocal; rw [if_neg h0, hm]
      rw [e1]
      have el : (xs.take j ++ ys ++ xs.drop (j + mcnt k)).length = j + ys.length + (xs.length - (j + mcnt k)) := by simp only [List.length_append, hlen, List.length_drop]
      have en : ∀ i, i < ys.length → nth (xs.take j ++ ys ++ xs.drop (j + mcnt k)) (j + i) = nth ys i := fun i hi => by
        have := nth_mid (xs.take j) ys (xs.drop (j + mcnt k)) i hi
        rwa [hlen] at this
      have et : (xs.take j ++ ys ++ xs.drop (j + mcnt k)).take j = xs.take j := by
        have := take_mid (xs.take j) ys (xs.drop (j + mcnt k))
        rwa [hlen] at this
      have ed : (xs.take j ++ ys ++ xs.drop (j + mcnt k)).drop (j + ys.length) = xs.drop (j + mcnt k) := drop_mid _ _ _ _ (by rw [hlen])
      have fin : ∀ k' l' zs, mcnt k' = ys.length → mnext (xs.take j ++ ys ++ xs.drop (j + mcnt k)) k' j l' = some zs → xs.take j ++ zs ++ xs.drop (j + mcnt k) = xs → mlocal (xs.take j ++ ys ++ xs.drop (j + mcnt k)) k' j l' = (xs, 0) := by
        intro k' l' zs h1 h2 h3
        unfold mlocal
        rw [if_neg (by rw [el, h1]; omega), h2, et, h1, ed]
        show (_, (0 : Int)) = _
        rw [h3]
      unfold mnext at hm
      split at hm
      · rename_i e
        injection hm with hm; subst hm; subst e
        refine fin 2 0 [] rfl ?_ (by simp [mcnt])
        have a := en 0 (by simp); have b := en 1 (by simp)
        rw [Nat.add_zero] at a
        unfold mnext; rw [if_neg (by decide), if_pos rfl, a, b, if_pos (by simp [nth])]
      · split at hm
        · rename_i e
          split at hm
          · rename_i e2
            injection hm with hm; subst hm; subst e
            have h2 : j + 2 ≤ xs.length := by simp [mcnt] at h0; omega
            refine fin 1 _ [nth xs j, -nth xs j] rfl rfl ?_
            rw [show -nth xs j = nth xs (j + 1) by omega]
            exact take_two h2
          · cases hm
        · split at hm
          · rename_i e
            split at hm
            · rename_i e2
              injection hm with hm; subst hm; subst e
              have h2 : j + 2 ≤ xs.length := by simp [mcnt] at h0; omega
              refine fin 3 0 [nth xs j, nth xs (j + 1)] rfl ?_ (take_two h2)
              have a := en 0 (by simp); have b := en 1 (by simp)
              have a' : nth (xs.take j ++ [nth xs (j + 1), nth xs j] ++ xs.drop (j + mcnt 3)) j = nth xs (j + 1) := a
              have b' : nth (xs.take j ++ [nth xs (j + 1), nth xs j] ++ xs.drop (j + mcnt 3)) (j + 1) = nth xs j := b
              unfold mnext; rw [if_neg (by decide), if_neg (by decide), if_pos rfl, a', b', if_pos (by omega)]
            · cases hm
          · split at hm
            · rename_i e2
              injection hm with hm; subst hm
              have e : k = 4 := by omega
              subst e
              have h2 : j + 3 ≤ xs.length := by simp [mcnt] at h0; omega
              refine fin 4 0 [nth xs j, nth xs (j + 1), nth xs (j + 2)] rfl ?_ (take_three h2)
              have a := en 0 (by simp); have b := en 1 (by simp); have c := en 2 (by simp)
              have a' : nth (xs.take j ++ [nth xs (j + 1), nth xs j, nth xs (j + 1)] ++ xs.drop (j + mcnt 4)) j = nth xs (j + 1) := a
              have b' : nth (xs.take j ++ [nth xs (j + 1), nth xs j, nth xs (j + 1)] ++ xs.drop (j + mcnt 4)) (j + 1) = nth xs j := b
              have c' : nth (xs.take j ++ [nth xs (j + 1), nth xs j, nth xs (j + 1)] ++ xs.drop (j + mcnt 4)) (j + 2) = nth xs (j + 1) := c
              unfold mnext
              rw [if_neg (by decide), if_neg (by decide), if_neg (by decide), a', b', c', if_pos ⟨rfl, e2.2.1.symm, by omega⟩, ← e2.1]
            · cases hm

/-- The move that Undo returns leads back. -/
theorem apply_back {n : Nat} {xs : List Int} (hn : 1 ≤ n) (hn6 : n ≤ 6) (hx : BWord n xs) (hl : xs.length ≤ 30) {k j : Nat} {l : Int} (hk1 : 1 ≤ k) (hk7 : k ≤ 7) (h5 : k ≠ 5) (h6 : k = 6 → l = 1 ∨ l = -1) (h : (mapply n xs k j l).2.2 = 0) :
    mapply (mapply n xs k j l).1 (mapply n xs k j l).2.1 (mundo xs k j l).1 (mundo xs k j l).2.1 (mundo xs k j l).2.2 = ((n : Int), xs, 0) := by
  have hp : (mperform n xs k j l).2.2 = 0 ∧ mapply n xs k j l = mperform n xs k j l ∧ (mperform n xs k j l).1 ≤ 6 ∧ (mperform n xs k j l).2.1.length ≤ 30 := by
    unfold mapply at h ⊢
    split at h
    · rename_i a; exact absurd h a
    · rename_i a
      split at h
      · cases h
      · rename_i b
        rw [if_neg a, if_neg b]; exact ⟨h, rfl, by omega, by omega⟩
  obtain ⟨p1, p2, p3, p4⟩ := hp
  rw [p2]
  have fin : mperform (mperform n xs k j l).1 (mperform n xs k j l).2.1 (mundo xs k j l).1 (mundo xs k j l).2.1 (mundo xs k j l).2.2 = ((n : Int), xs, 0) → mapply (mperform n xs k j l).1 (mperform n xs k j l).2.1 (mundo xs k j l).1 (mundo xs k j l).2.1 (mundo xs k j l).2.2 = ((n : Int), xs, 0) := by
    intro e
    unfold mapply
    rw [e]
    rw [if_neg (by simp), if_neg (by simp only; omega)]
  apply fin
  clear fin p2
  have hN : ∀ i, i < xs.length → nth xs i ≠ 0 ∧ -(n : Int) < nth xs i ∧ nth xs i < n := fun i hi => hx _ (nth_mem hi)
  unfold mperform at p1 ⊢
  rw [if_neg h5] at p1 ⊢
  by_cases k6 : k = 6
  · subst k6
    rw [if_pos rfl] at p1 ⊢
    simp only [mundo, show ¬ ((6 : Nat) = 1) by decide, show ¬ ((6 : Nat) = 2) by decide, if_false, if_true, show ¬ ((7 : Nat) = 5) by decide, show ¬ ((7 : Nat) = 6) by decide]
    have hlast : mlast ((n : Int) + 1) (xs ++ [l * n]) := by
      refine ⟨by simp, ?_, fun j hj => ?_⟩
      · have : (xs ++ [l * (n : Int)]).length - 1 = xs.length := by simp
        rw [this]
        have e : nth (xs ++ [l * (n : Int)]) xs.length = l * n := by simp [nth, List.getD_eq_getElem?_getD]
        rw [e]
        rcases h6 rfl with rfl | rfl <;> omega
      · have hj' : j < xs.length := by simp at hj; exact hj
        have e : nth (xs ++ [l * (n : Int)]) j = nth xs j := by simp [nth, List.getD_eq_getElem?_getD, List.getElem?_append_left hj']
        rw [e]
        have := hN j hj'; omega
    rw [if_pos hlast]
    simp
  · rw [if_neg k6] at p1 ⊢
    by_cases k7 : k = 7
    · subst k7
      rw [if_pos rfl] at p1 ⊢
      by_cases hm : mlast (n : Int) xs
      · rw [if_pos hm]
        simp only [mundo, show ¬ ((7 : Nat) = 1) by decide, show ¬ ((7 : Nat) = 2) by decide, show ¬ ((7 : Nat) = 6) by decide, if_false, if_true, show ¬ ((6 : Nat) = 5) by decide]
        obtain ⟨m0, m1, m2⟩ := hm
        have hq := hN (xs.length - 1) (by omega)
        have e : xs.take (xs.length - 1) ++ [nth xs (xs.length - 1)] = xs := by
          rw [nth_lt (show xs.length - 1 < xs.length by omega), ← List.take_succ_eq_append_getElem, show xs.length - 1 + 1 = xs.length by omega, List.take_length]
        have e2 : (if 0 < nth xs (xs.length - 1) then 1 else -1) * ((n : Int) - 1) = nth xs (xs.length - 1) := by
          split <;> omega
        rw [e2, e]
        simp
      · rw [if_neg hm] at p1; cases p1
    · rw [if_neg k7] at p1 ⊢
      have hu : (mundo xs k j l).1 ≠ 5 ∧ (mundo xs k j l).1 ≠ 6 ∧ (mundo xs k j l).1 ≠ 7 := by unfold mundo; (repeat' split) <;> simp <;> omega
      rw [if_neg hu.1, if_neg hu.2.1, if_neg hu.2.2]
      simp only
      rw [local_back (n := n) hk1 (by omega) p1]

end Go.Proofs.Ytmcecmnbdcbehaa

namespace Go.Proofs.Ytmcecmnbdcbehaa
open Go.RowKit Go.Sl

/-- The word is a conjugate of the generator. -/
def Cj (r : List Int) (m : Nat) : Prop := ∃ y, IsWord y ∧ r = redL (y ++ [(m : Int) + 1] ++ invL y)
theorem Cj.word {r : List Int} {m : Nat} (h : Cj r m) (hm : m < 6) : IsWord r := by
  obtain ⟨y, hy, rfl⟩ := h
  refine ((hy.append ?_).append hy.inv).red
  intro x hx
  simp at hx
  omega
end Go.Proofs.Ytmcecmnbdcbehaa


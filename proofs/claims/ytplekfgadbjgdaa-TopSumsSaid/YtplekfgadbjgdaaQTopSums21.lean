/- Greatest common divisors of minors: intmatrix.gcd, count, smith, walked. -/
import Derived.Test.YtplekfgadbjgdaaQTopSums0
import Derived.Test.YtplekfgadbjgdaaQTopSums1
import Derived.Test.YtplekfgadbjgdaaQTopSums3
import Derived.Test.YtplekfgadbjgdaaQTopSums8
import Derived.Test.YtplekfgadbjgdaaQTopSums10
import Derived.Test.YtplekfgadbjgdaaQTopSums17
import Derived.Test.YtplekfgadbjgdaaQTopSums19
import Derived.Deep.RegionLaw
namespace Go.Proofs.Ytplekfgadbjgdaa
open Go.RowKit Go.Sl

theorem gcd_calls (a b : Int) (w : World) (ha : a.natAbs ≤ 1000000000000000000) (hb : b.natAbs ≤ 1000000000000000000) :
    Calls Try.prog 149 #[.int .i64 a, .int .i64 b] w fun e w' => e = .returned (.int .i64 (Nat.gcd a.natAbs b.natAbs : Nat)) ∧ ∃ n, w' = w.drewN n := by
  obtain ⟨G, hG⟩ : ∃ G, G = Nat.gcd a.natAbs b.natAbs := ⟨_, rfl⟩
  have HG := Lib.hid hG; clear hG
  go_enter Try.func149, Try.ntmps149
  go_wp2_with fail
  go_loopw [0, 1] (fun x y wr => ∃ p q : Int, x = .int .i64 p ∧ y = .int .i64 q ∧ p.natAbs ≤ 1000000000000000000 ∧ q.natAbs ≤ 1000000000000000000 ∧ Nat.gcd p.natAbs q.natAbs = G ∧ ∃ n, wr = w.drewN n) (fun _ y _ => (intOf y).natAbs)
  case atStart => exact ⟨a, b, rfl, rfl, ha, hb, HG.out.symm, 0, rfl⟩
  case round =>
    obtain ⟨p, q, rfl, rfl, hp, hq, hg, n, hwr⟩ := hrel
    have HWR := Lib.hid hwr; clear hwr
    have HGG := Lib.hid hg; clear hg ha hb
    by_cases hz : q = 0
    · subst hz
      have hne : ((0 : Int) != 0) = false := rfl
      have hga : G = p.natAbs := by rw [← HGG.out]; simp
      have HGA := Lib.hid hga; clear hga
      by_cases hs : -p > p
      · go_wp2_with fail
        go_ret
        exact ⟨ret_int' (by have := HGA.out; have := HG.out; omega), n, HWR.out⟩
      · go_wp2_with fail
        go_ret
        exact ⟨ret_int' (by have := HGA.out; have := HG.out; omega), n, HWR.out⟩
    · have hne : (q != 0) = true := by simp [hz]
      have hab : (p.tmod q).natAbs = p.natAbs % q.natAbs := Int.natAbs_tmod p q
      have hlt : p.natAbs % q.natAbs < q.natAbs := Nat.mod_lt _ (by omega)
      have hb1 : -1000000000000000000 ≤ p.tmod q := by omega
      have hb2 : p.tmod q ≤ 1000000000000000000 := by omega
      have hnext : Nat.gcd q.natAbs (p.tmod q).natAbs = G := by
        rw [hab, ← HGG.out, Nat.gcd_comm p.natAbs, Nat.gcd_rec q.natAbs p.natAbs, Nat.gcd_comm]
      have hq0 : (q == 0) = false := by simp [hz]
      have HN := Lib.hid hnext; clear hnext
      have HAB := Lib.hid hab; clear hab
      have HLT := Lib.hid hlt; clear hlt
      go_wp2_with fail
      go_quiet (fail)
      go_wp2_with fail
      go_roundw
      case rel => exact ⟨q, p.tmod q, rfl, rfl, hq, by omega, HN.out, _, by rw [HWR.out, World.drewN_drewN]⟩
      case measure => have := HAB.out; have := HLT.out; simp [intOf]; omega

theorem and_pred : ∀ s : Fin 64, s.val ≠ 0 → bits .and .i64 (s.val : Int) ((s.val : Int) - 1) = ((s.val &&& (s.val - 1) : Nat) : Int) ∧ popc 6 (s.val &&& (s.val - 1)) + 1 = popc 6 s.val ∧ s.val &&& (s.val - 1) < s.val := by decide +kernel

theorem count_calls (s : Nat) (w : World) (hs : s < 64) :
    Calls Try.prog 161 #[.int .i64 s] w fun e w' => e = .returned (.int .i64 (popc 6 s)) ∧ w = w' := by
  obtain ⟨P, hP⟩ : ∃ P, P = popc 6 s := ⟨_, rfl⟩
  have hp6 : P ≤ 6 := by rw [hP]; exact popc_le ⟨s, hs⟩
  have HP := Lib.hid hP; clear hP
  go_enter Try.func161, Try.ntmps161
  go_wp2_with fail
  go_loop [0, 3] (fun x c => ∃ q k : Nat, x = .int .i64 q ∧ c = .int .i64 k ∧ q < 64 ∧ k + popc 6 q = P) (fun x _ => (intOf x).toNat)
  case atStart => exact ⟨s, 0, rfl, rfl, hs, by rw [HP.out]; omega⟩
  case round =>
    obtain ⟨q, k, rfl, rfl, hq, hk⟩ := hrel
    by_cases hz : q = 0
    · subst hz
      have hke : k = P := by rw [← hk]; rfl
      have HK := Lib.hid hke; clear hke hk
      go_wp2_with fail
      go_ret
      exact ⟨by rw [← HP.out, ← HK.out]; rfl, rfl⟩
    · have hf := and_pred ⟨q, hq⟩ hz
      have h1 := hf.1
      have h2 := hf.2.1
      have h3 := hf.2.2
      simp only at h1 h2 h3
      have hk6 : k ≤ 6 := by omega
      have HK := Lib.hid hk; have H2 := Lib.hid h2; clear hk h2 hf
      go_wp2_with fail
      go_round
      case rel => exact ⟨q &&& (q - 1), k + 1, by go_num, by go_num, by omega, by have := HK.out; have := H2.out; omega⟩
      case measure => simp [intOf]; omega

theorem count_nat (s k : Nat) (w : World) (hs : s < 64) (h : popc 6 s = k) :
    Calls Try.prog 161 #[.int .i64 s] w fun e w' => e = .returned (.int .i64 k) ∧ w = w' :=
  (count_calls s w hs).mono fun e w' ⟨h1, h2⟩ => ⟨by rw [h1, h], h2⟩

/-! ### The greatest common divisors of the minors -/
/-- The minors of k rows: those of the first c masks of columns, for the rows' mask r. -/
def colsG (m : List (List Int)) (C k r acc : Nat) : Nat → Nat
  | 0 => acc
  | c + 1 => if popc 6 r = k ∧ popc 6 c = k then Nat.gcd (colsG m C k r acc c) (minM m C k r c).natAbs else colsG m C k r acc c
def rowsG (m : List (List Int)) (C k : Nat) : Nat → Nat
  | 0 => 0
  | r + 1 => colsG m C k r (rowsG m C k r) (2 ^ C)
/-- The list d of smith, when the masks of rows below r are done, and of r those of columns below c. -/
def dTo (m : List (List Int)) (C n r c : Nat) : List Int := (List.range (n + 1)).map fun k => ((colsG m C k r (rowsG m C k r) c : Nat) : Int)
theorem dTo_length (m : List (List Int)) (C n r c : Nat) : (dTo m C n r c).length = n + 1 := by simp [dTo]
theorem nth_dTo (m : List (List Int)) (C n r c k : Nat) (h : k ≤ n) : nth (dTo m C n r c) k = ((colsG m C k r (rowsG m C k r) c : Nat) : Int) := by
  rw [nth_lt (by rw [dTo_length]; omega)]; simp [dTo]
theorem dTo_zero (m : List (List Int)) (C n : Nat) : dTo m C n 0 0 = List.replicate (n + 1) 0 := by
  simp [dTo, colsG, rowsG, List.map_const']
theorem dTo_row (m : List (List Int)) (C n r : Nat) : dTo m C n (r + 1) 0 = dTo m C n r (2 ^ C) := by
  simp [dTo, colsG, rowsG]
theorem dTo_step (m : List (List Int)) (C n r c : Nat) (h : popc 6 r = popc 6 c) (hn : popc 6 r ≤ n) :
    (dTo m C n r c).set (popc 6 r) ((Nat.gcd (nth (dTo m C n r c) (popc 6 r)).natAbs (minM m C (popc 6 r) r c).natAbs : Nat) : Int) = dTo m C n r (c + 1) := by
  apply ext_nth (by simp [dTo_length])
  intro k hk
  have hk' : k < n + 1 := by simpa [dTo_length] using hk
  rw [nth_dTo _ _ _ _ _ _ hn, nth_dTo _ _ _ _ _ _ (by omega), colsG]
  by_cases e : popc 6 r = k
  · subst e
    rw [nth_set_same _ (by rw [dTo_length]; omega), if_pos ⟨rfl, h.symm⟩, Int.natAbs_natCast]
  · rw [nth_set_other _ e, nth_dTo _ _ _ _ _ _ (by omega), if_neg (fun h => e h.1)]
theorem dTo_skip (m : List (List Int)) (C n r c : Nat) (h : popc 6 r ≠ popc 6 c) : dTo m C n r (c + 1) = dTo m C n r c := by
  apply ext_nth (by simp [dTo_length])
  intro k hk
  have hk' : k < n + 1 := by simpa [dTo_length] using hk
  rw [nth_dTo _ _ _ _ _ _ (by omega), nth_dTo _ _ _ _ _ _ (by omega), colsG, if_neg (fun h' => h (by omega))]
theorem gcd_le_max {a b K : Nat} (ha : a ≤ K) (hb : b ≤ K) : Nat.gcd a b ≤ K := by
  rcases Nat.eq_zero_or_pos a with h | h
  · subst h; simpa using hb
  · exact Nat.le_trans (Nat.gcd_le_left b h) ha
theorem colsG_le {m : List (List Int)} {C k r acc K : Nat} (hm : ∀ c, (minM m C k r c).natAbs ≤ K) (ha : acc ≤ K) (c : Nat) : colsG m C k r acc c ≤ K := by
  induction c with
  | zero => exact ha
  | succ c ih =>
    rw [colsG]
    split
    · exact gcd_le_max ih (hm c)
    · exact ih
theorem rowsG_le {m : List (List Int)} {C k K : Nat} (hm : ∀ r c, (minM m C k r c).natAbs ≤ K) (r : Nat) : rowsG m C k r ≤ K := by
  induction r with
  | zero => exact Nat.zero_le _
  | succ r ih => exact colsG_le (hm r) ih _
theorem dTo_le {m : List (List Int)} {C n : Nat} (hE : ∀ r c, (ent2 m r c).natAbs ≤ 100) (hC : C ≤ 6) (hn : n ≤ 6) (r c k : Nat) (hk : k ≤ n) : (nth (dTo m C n r c) k).natAbs ≤ 46656000000000000 := by
  rw [nth_dTo _ _ _ _ _ _ hk, Int.natAbs_natCast]
  have h1 : ∀ r c, (minM m C k r c).natAbs ≤ 46656000000000000 := fun r c => by
    have h2 := minM_abs hE hC k r c
    have h3 : 600 ^ k ≤ 600 ^ 6 := Nat.pow_le_pow_right (by omega) (by omega)
    omega
  exact colsG_le (h1 r) (rowsG_le h1 r) c
theorem popc_lt : ∀ R : Fin 7, ∀ r : Fin 64, r.val < 2 ^ R.val → popc 6 r.val ≤ R.val := by decide +kernel
theorem pow_le64 : ∀ R : Fin 7, 2 ^ R.val ≤ 64 := by decide +kernel

theorem belowN {B : Nat} {a w : World} (h : Below B a w) (n : Nat) : Below B a (w.drewN n) := ⟨h.os, h.tape, h.output, h.size, h.block⟩
theorem colsG_zero {m : List (List Int)} {C k r acc : Nat} (c : Nat) : colsG m C k r acc c = 0 ↔ acc = 0 ∧ ∀ c', c' < c → popc 6 r = k → popc 6 c' = k → minM m C k r c' = 0 := by
  induction c with
  | zero => simp [colsG]
  | succ c ih =>
    rw [colsG]
    constructor
    · intro h
      have h0 : colsG m C k r acc c = 0 := by
        split at h
        · exact (Nat.gcd_eq_zero_iff.1 h).1
        · exact h
      refine ⟨(ih.1 h0).1, fun c' hc' h1 h2 => ?_⟩
      rcases Nat.lt_or_ge c' c with hl | hl
      · exact (ih.1 h0).2 c' hl h1 h2
      · obtain rfl : c' = c := by omega
        rw [if_pos ⟨h1, h2⟩] at h
        exact Int.natAbs_eq_zero.1 (Nat.gcd_eq_zero_iff.1 h).2
    · rintro ⟨h1, h2⟩
      have h0 := ih.2 ⟨h1, fun c' hc' => h2 c' (by omega)⟩
      split
      · rename_i hh
        rw [h0, h2 c (by omega) hh.1 hh.2]; rfl
      · exact h0
theorem rowsG_zero {m : List (List Int)} {C k : Nat} (r : Nat) : rowsG m C k r = 0 ↔ ∀ r', r' < r → ∀ c', c' < 2 ^ C → popc 6 r' = k → popc 6 c' = k → minM m C k r' c' = 0 := by
  induction r with
  | zero => simp [rowsG]
  | succ r ih =>
    rw [rowsG, colsG_zero, ih]
    constructor
    · rintro ⟨h1, h2⟩ r' hr' c' hc' e1 e2
      rcases Nat.lt_or_ge r' r with hl | hl
      · exact h1 r' hl c' hc' e1 e2
      · obtain rfl : r' = r := by omega
        exact h2 c' hc' e1 e2
    · intro h
      exact ⟨fun r' hr' => h r' (by omega), fun c' hc' e1 e2 => h r (by omega) c' hc' e1 e2⟩
theorem popc_sub : ∀ c : Fin 64, ∀ j : Fin 6, hasBit c.val j.val = true → popc 6 (c.val - 2 ^ j.val) + 1 = popc 6 c.val := by decide +kernel
theorem outTo_zero {e sub : Nat → Int} {cols : Nat} (c : Nat) (h : ∀ j, j < c → hasBit cols j = true → sub j = 0) : outTo e sub cols c = 0 := by
  induction c with
  | zero => rfl
  | succ c ih =>
    rw [outTo, ih (fun j hj => h j (by omega))]
    split
    · rename_i hb; rw [h c (by omega) hb]; simp
    · rfl
/-- Where all minors of k rows are 0, so are those of k + 1 rows. -/
theorem rowsG_next {m : List (List Int)} {R C k : Nat} (hR : R ≤ 6) (hC : C ≤ 6) (h : rowsG m C k (2 ^ R) = 0) : rowsG m C (k + 1) (2 ^ R) = 0 := by
  rw [rowsG_zero] at h ⊢
  have hp1 := pow_le64 ⟨R, by omega⟩
  have hp2 := pow_le64 ⟨C, by omega⟩
  simp only at hp1 hp2
  intro r hr c hc e1 e2
  have hr0 : r ≠ 0 := by intro h0; rw [h0] at e1; revert e1; simp [popc]
  have hl := (low_facts ⟨r, by omega⟩ hr0).2.2
  simp only at hl
  rw [minM]
  refine outTo_zero _ fun j hj hb => ?_
  have hs := popc_sub ⟨c, by omega⟩ ⟨j, by omega⟩ hb
  simp only at hs
  exact h _ (Nat.lt_of_le_of_lt (Nat.sub_le _ _) hr) _ (Nat.lt_of_le_of_lt (Nat.sub_le _ _) hc) (by omega) (by omega)
theorem dTo_end {m : List (List Int)} {C n R k : Nat} (hk : k ≤ n) : nth (dTo m C n (2 ^ R) 0) k = ((rowsG m C k (2 ^ R) : Nat) : Int) := by
  rw [nth_dTo _ _ _ _ _ _ hk]; rfl

/-- The invariant factors out of the list d. -/
def facAt (d : List Int) (k : Nat) : Int := if nth d (k + 1) = 0 then 0 else nth d (k + 1) / nth d k
theorem nth_fac (d : List Int) (n k : Nat) (h : k < n) : nth ((List.range n).map (facAt d)) k = facAt d k := by rw [nth_lt (by simpa using h)]; simp
def facL (d : List Int) (n : Nat) : List Int := (List.range n).map (facAt d)
def smithL (m : List (List Int)) (R C : Nat) : List Int := facL (dTo m C (min R C) (2 ^ R) 0) (min R C)

set_option maxRecDepth 100000 in
set_option maxHeartbeats 1000000 in
theorem smith_calls (v : Value) (xss : List (List Int)) (R C : Nat) (w : World) (hv : Rows2 w v xss) (hm : IsMat xss R C) (hR : 0 < R) (hC : 0 < C) :
    Calls Try.prog 148 #[v] w fun e w' => ∃ u, e = .returned u ∧ OwnI w' w.heap.size u (smithL xss R C) ∧ Below w.heap.size w w' := by
  have sv := hv.isSl
  have lv := hv.len
  rw [hm.rows] at lv
  have hR6 := hm.hn
  have hC6 := hm.hc
  have hcol : ∀ W, Below w.heap.size w W → Calls Try.prog 150 #[v] W fun e w' => e = .returned (.int .i64 C) ∧ W = w' := fun W hb => columns_calls v xss R C W (hv.below hb) hm hR
  have hmin : ∀ W, Below w.heap.size w W → ∀ rows cols : Nat, rows < 64 → cols < 64 → rows < 2 ^ R → Calls Try.prog 162 #[v, .int .i64 rows, .int .i64 cols] W fun e w' => e = .returned (.int .i64 (minM xss C (popc 6 rows) rows cols)) ∧ ∃ q, w' = W.drewN q :=
    fun W hb rows cols h1 h2 h3 => minor_calls v xss R C hm (popc 6 rows) rows cols W (hv.below hb) h1 h2 h3 rfl
  have HCOL := Lib.hid hcol; have HMIN := Lib.hid hmin; clear hcol hmin
  have hE := hm.abs
  have HE := Lib.hid hE; clear hE
  obtain ⟨n, hn⟩ : ∃ n, n = min R C := ⟨_, rfl⟩
  have hn1 : (if C < R then (C : Int) else (R : Int)) = (n : Int) := by rw [hn]; split <;> omega
  have hn6 : n ≤ 6 := by omega
  have hnR : n ≤ R := by omega
  have hnC : n ≤ C := by omega
  have HN := Lib.hid hn; clear hn
  have hp1 := pow_le64 ⟨R, by omega⟩
  have hp2 := pow_le64 ⟨C, by omega⟩
  simp only at hp1 hp2
  obtain ⟨PR, hPR⟩ : ∃ P, P = 2 ^ R := ⟨_, rfl⟩
  obtain ⟨PC, hPC⟩ : ∃ P, P = 2 ^ C := ⟨_, rfl⟩
  have w1 : IntKind.i64.wrap ((2 : Int) ^ R) = (PR : Int) := by have := shl_one ⟨R, by omega⟩; rw [hPR]; simpa using this
  have w2 : IntKind.i64.wrap ((2 : Int) ^ C) = (PC : Int) := by have := shl_one ⟨C, by omega⟩; rw [hPC]; simpa using this
  rw [← hPR] at hp1
  rw [← hPC] at hp2
  have HPR := Lib.hid hPR; have HPC := Lib.hid hPC
  clear hv hm hPR hPC
  go_enter Try.func148, Try.ntmps148
  go_wp2_with (first
    | (go_at_call 150; refine (HCOL.out _ (Below.refl _ _)).mono ?_; rintro e w' ⟨rfl, rfl⟩)
    | (at_make; refine wpList_make rfl _ _ rfl _ _ (n + 1) rfl rfl (by omega) (by omega) (by omega) ?_; intro out x1 ho1 hg1 hlo hsz; have so := ho1.isSl))
  have hb1 : Below w.heap.size w x1 := Below_of_grown (Below.refl _ _) hg1 (Nat.le_refl _) (by intro k hk; cases hk)
  have HO := Lib.hid ho1; clear ho1 hg1 hsz
  have HB1 := Lib.hid hb1; clear hb1
  go_loopw [22] (fun i wr => ∃ r : Nat, r ≤ PR ∧ i = .int .i64 r ∧ OwnI wr w.heap.size out (dTo xss C n r 0) ∧ Below w.heap.size w wr) (fun i _ => PR - (intOf i).toNat)
  case atStart => exact ⟨0, Nat.zero_le _, rfl, by rw [dTo_zero]; exact HO.out, HB1.out⟩
  case round =>
    obtain ⟨r, hr, rfl, ho, hbr⟩ := hrel
    by_cases hrl : r < PR
    · have HOR := Lib.hid ho; clear ho
      have HBR := Lib.hid hbr; clear hbr
      go_wp2_with (go_at_call 150; refine (HCOL.out _ HBR.out).mono ?_; rintro e w' ⟨rfl, rfl⟩)
      go_loopw [28] (fun i wx => ∃ c : Nat, c ≤ PC ∧ i = .int .i64 c ∧ OwnI wx w.heap.size out (dTo xss C n r c) ∧ Below w.heap.size w wx) (fun i _ => PC - (intOf i).toNat)
      case atStart => exact ⟨0, Nat.zero_le _, rfl, HOR.out, HBR.out⟩
      case round =>
        obtain ⟨c, hc, rfl, ho, hbx⟩ := hrel
        by_cases hcl : c < PC
        · by_cases heq : popc 6 r = popc 6 c
          · obtain ⟨k, hk⟩ : ∃ k, popc 6 r = k := ⟨_, rfl⟩
            have hk2 : popc 6 c = k := by rw [← heq, hk]
            have hkR : k ≤ R := by rw [← hk]; exact popc_lt ⟨R, by omega⟩ ⟨r, by omega⟩ (by rw [← HPR.out]; exact hrl)
            have hkC : k ≤ C := by rw [← hk2]; exact popc_lt ⟨C, by omega⟩ ⟨c, by omega⟩ (by rw [← HPC.out]; exact hcl)
            have hkn : k ≤ n := by have := HN.out; omega
            have hrPR : r < 2 ^ R := by rw [← HPR.out]; exact hrl
            have hmc : ∀ W, Below w.heap.size w W → Calls Try.prog 162 #[v, .int .i64 r, .int .i64 c] W fun e w' => e = .returned (.int .i64 (minM xss C k r c)) ∧ ∃ q, w' = W.drewN q := by
              intro W hb
              have := HMIN.out W hb r c (by omega) (by omega) hrPR
              rw [hk] at this; exact this
            have HMC := Lib.hid hmc; clear hmc
            have hlen : (dTo xss C n r c).length = n + 1 := dTo_length _ _ _ _ _
            have c3 := ho.cell (k := k) (by omega)
            have f3 := ho.frozen (k := k) (by omega)
            have hda := dTo_le (m := xss) (C := C) (n := n) HE.out hC6 hn6 r c k hkn
            have hma : (minM xss C k r c).natAbs ≤ 1000000000000000000 := by
              have h1 := minM_abs HE.out hC6 k r c
              have h2 : 600 ^ k ≤ 600 ^ 6 := Nat.pow_le_pow_right (by omega) (by omega)
              omega
            have hstep := dTo_step xss C n r c heq (by omega)
            rw [hk] at hstep
            have hset : ∀ W, Below wr.heap.size wr W → OwnI (W.setCell (vat out k) (.int .i64 ((Nat.gcd (nth (dTo xss C n r c) k).natAbs (minM xss C k r c).natAbs : Nat) : Int))) w.heap.size out (dTo xss C n r (c + 1)) ∧
                Below w.heap.size w (W.setCell (vat out k) (.int .i64 ((Nat.gcd (nth (dTo xss C n r c) k).natAbs (minM xss C k r c).natAbs : Nat) : Int))) := by
              intro W hb
              have h1 := (ho.below hb).set (k := k) (by omega) ((Nat.gcd (nth (dTo xss C n r c) k).natAbs (minM xss C k r c).natAbs : Nat) : Int)
              rw [hstep] at h1
              exact ⟨h1, (hbx.trans (hb.mono hbx.size)).setCell ((ho.below hb).ge (k := k) (by omega)) _⟩
            have HSET := Lib.hid hset; clear hset hstep
            have HK := Lib.hid hk; have HK2 := Lib.hid hk2; clear hk hk2 heq
            have hlo : vlen out = n + 1 := by rw [ho.len, hlen]
            clear hlen
            have q1 : k < n + 1 := by omega
            have q2 : (k : Int) < (n : Int) + 1 := by omega
            have HOO := Lib.hid ho; clear ho
            have HBX := Lib.hid hbx; clear hbx
            go_wp2_with (go_at_call 161; refine (count_nat _ k _ (by omega) (by first | exact HK.out | exact HK2.out)).mono ?_; rintro e w' ⟨rfl, rfl⟩)
            go_region_law (first
              | (go_simp; go_at_call 162; refine (HMC.out _ (by first | exact HBX.out.drew | exact belowN HBX.out.drew _)).mono ?_; rintro e w' ⟨rfl, n1, rfl⟩)
              | (go_simp; go_at_call 149; refine (gcd_calls _ _ _ (by omega) (by omega)).mono ?_; rintro e w' ⟨rfl, n2, rfl⟩))
            all_goals
              go_wp2_with fail
              go_roundw
              case rel => exact ⟨c + 1, by omega, by go_num, (HSET.out _ (by first | exact belowN (belowN (Below.refl _ _).drew _) _ | exact belowN (Below.refl _ _).drew _ | exact belowN (Below.refl _ _) _)).1, (HSET.out _ (by first | exact belowN (belowN (Below.refl _ _).drew _) _ | exact belowN (Below.refl _ _).drew _ | exact belowN (Below.refl _ _) _)).2⟩
              case measure => simp [intOf]; omega
          · have he : ((popc 6 r : Int) == (popc 6 c : Int)) = false := by rw [beq_eq_false_iff_ne]; omega
            have hsk := dTo_skip xss C n r c heq
            have HSK := Lib.hid hsk; clear hsk heq
            go_wp2_with (go_at_call 161; refine (count_calls _ _ (by omega)).mono ?_; rintro e w' ⟨rfl, rfl⟩)
            go_roundw
            case rel => exact ⟨c + 1, by omega, by go_num, by rw [HSK.out]; exact ho, hbx⟩
            case measure => simp [intOf]; omega
        · have hce : c = PC := by omega
          have hro : dTo xss C n (r + 1) 0 = dTo xss C n r c := by rw [hce, HPC.out, dTo_row]
          have HRO := Lib.hid hro; clear hro hce
          go_wp2_with fail
          go_roundw
          case rel => exact ⟨r + 1, by omega, by go_num, by rw [HRO.out]; exact ho, hbx⟩
          case measure => simp [intOf]; omega
    · have hre : r = PR := by omega
      obtain ⟨W, hW⟩ : ∃ W : World, W = wr := ⟨_, rfl⟩
      subst hW
      obtain ⟨DS, hDS⟩ : ∃ DS, DS = dTo xss C n (2 ^ R) 0 := ⟨_, rfl⟩
      have hd : OwnI W w.heap.size out DS := by rw [hDS, ← HPR.out, ← hre]; exact ho
      have hdl : DS.length = n + 1 := by rw [hDS]; exact dTo_length _ _ _ _ _
      have hd0 : ∀ k, k ≤ n → 0 ≤ nth DS k ∧ nth DS k ≤ 46656000000000000 := by
        intro k hk
        have h1 := dTo_le (m := xss) (C := C) (n := n) HE.out hC6 hn6 (2 ^ R) 0 k hk
        rw [hDS, dTo_end hk] at *
        omega
      have hd1 : ∀ k, k < n → nth DS (k + 1) ≠ 0 → 1 ≤ nth DS k := by
        intro k hk h1
        have h2 := hd0 k (by omega)
        have h3 : nth DS k ≠ 0 := by
          intro h0
          apply h1
          rw [hDS, dTo_end (by omega)] at h0
          rw [hDS, dTo_end (by omega), rowsG_next hR6 hC6 (by omega)]; rfl
        omega
      have hfl : smithL xss R C = (List.range n).map (facAt DS) := by unfold smithL facL; rw [← HN.out, ← hDS]
      have HFL := Lib.hid hfl; have HD := Lib.hid hd; have HD0 := Lib.hid hd0; have HD1 := Lib.hid hd1; have HDL := Lib.hid hdl; have HBR := Lib.hid hbr
      clear hfl hd hd0 hd1 ho hre hDS hbr
      have hlo : vlen out = n + 1 := by rw [HD.out.len, hdl]
      clear hdl
      go_wp2_with fail
      go_loopw [8, 9] (fun o k wy => ∃ q : Nat, q ≤ n ∧ k = .int .i64 ((q : Int) + 1) ∧ OwnI wy W.heap.size o (((List.range n).map (facAt DS)).take q) ∧ Below W.heap.size W wy) (fun _ k _ => n + 1 - (intOf k).toNat)
      case atStart => exact ⟨0, Nat.zero_le _, rfl, ownI_nil _ _, Below.refl _ _⟩
      case round =>
        obtain ⟨q, hq, rfl, ho, hby⟩ := hrel
        by_cases hqn : q < n
        · have c1 := (HD.out.below hby).cell (k := q + 1) (by rw [HDL.out]; omega)
          have c2 := (HD.out.below hby).cell (k := q) (by rw [HDL.out]; omega)
          have b1 := HD0.out (q + 1) (by omega)
          have b2 := HD0.out q (by omega)
          have b11 := b1.1
          have b12 := b1.2
          have b21 := b2.1
          have b22 := b2.2
          have hbs := hby.size
          have hol : (((List.range n).map (facAt DS)).take q).length ≤ 6 := by simp; omega
          have hnf := nth_fac DS n q hqn
          have htk := take_succ_nth ((List.range n).map (facAt DS)) q (by simpa using hqn)
          rw [hnf] at htk
          clear b1 b2 hnf
          have e1 : (q : Int) + 1 - 1 = (q : Int) := by omega
          have HTK := Lib.hid htk; clear htk
          by_cases hz : nth DS (q + 1) = 0
          · have hz' : (nth DS (q + 1) != 0) = false := by simp [hz]
            have hf : facAt DS q = 0 := by unfold facAt; rw [if_pos hz]
            have HF := Lib.hid hf; clear hf hz
            clear c2
            go_wp2_with (at_builtin; refine wpList_push (v := u8) rfl _ _ rfl rfl rfl ho hbs (by omega) ?_; intro o2 w2 ho2 hg2 hr2)
            have hb2 : Below W.heap.size W w2 := Below_of_grown hby hg2 hbs (fun k hk => (ho.lt k hk).1)
            go_roundw
            case rel => exact ⟨q + 1, by omega, by go_num, by rw [HTK.out, HF.out]; exact ho2, hb2⟩
            case measure => simp [intOf]; omega
          · have hz' : (nth DS (q + 1) != 0) = true := by simp [hz]
            have hf : facAt DS q = nth DS (q + 1) / nth DS q := by unfold facAt; rw [if_neg hz]
            have h1 := HD1.out q hqn hz
            have hne0 : (nth DS q == 0) = false := by rw [beq_eq_false_iff_ne]; omega
            have HF := Lib.hid hf; clear hf hz
            have q1 : IntKind.i64.wrap ((q : Int) + 1 - 1) = (q : Int) := IntWalk.i64_in _ (by omega) |>.trans e1
            have q2 : ((q : Int) + 1).toNat = q + 1 := by omega
            have q3 : (0 : Int) ≤ (q : Int) + 1 := by omega
            have q4 : (q : Int) + 1 < (n : Int) + 1 := by omega
            have q5 : (q : Int) < (n : Int) + 1 := by omega
            have q6 : IntKind.i64.wrap ((nth DS (q + 1)).tdiv (nth DS q)) = nth DS (q + 1) / nth DS q := IntWalk.i64_quo _ _ (by omega)
            go_wp2_with fail
            go_quiet (fail)
            go_wp2_with (at_builtin; refine wpList_push (v := u8) rfl _ _ rfl rfl rfl (ho.below (Below.drawn _)) hbs (by omega) ?_; intro o2 z2 ho2 hg2 hr2)
            have hb2 : Below W.heap.size W z2 := Below_of_grown (belowN hby _) hg2 hbs (fun k hk => (ho.lt k hk).1)
            go_roundw
            case rel => exact ⟨q + 1, by omega, by go_num, by rw [HTK.out, HF.out]; exact ho2, hb2⟩
            case measure => simp [intOf]; omega
        · obtain rfl : q = n := by omega
          have ho' : OwnI wr W.heap.size u8 ((List.range q).map (facAt DS)) := by
            rw [List.take_of_length_le (by simp)] at ho; exact ho
          clear ho
          go_wp2_with fail
          go_ret
          exact ⟨u8, rfl, by rw [HFL.out]; exact ho'.low HBR.out.size, HBR.out.trans (hby.mono HBR.out.size)⟩

end Go.Proofs.Ytplekfgadbjgdaa


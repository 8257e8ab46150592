/- MatrixCounts: for every input the statement returns true, and nothing that was there has changed. -/
import Derived.Test.YtbopcejelddooaaSolutions
import Derived.Test.YtbopcejelddooaaMatrixDetTimes
namespace Go.Proofs.Ytbopcejelddooaa
open Go.RowKit Go.Sl

theorem solL_le (l : List Int) {M C : Nat} (h0 : 0 < M) (h13 : M ≤ 13) (hl : l.length ≤ C) (hC : C ≤ 4) : solL l M C ≤ 13 ^ 4 := by
  unfold solL
  have h1 := solTo_le l M h0 l.length
  have h2 : solTo l M l.length * M ^ (C - l.length) ≤ M ^ l.length * M ^ (C - l.length) := Nat.mul_le_mul_right _ h1
  rw [← Nat.pow_add, show l.length + (C - l.length) = C from by omega] at h2
  have h3 : M ^ C ≤ 13 ^ 4 := Nat.le_trans (Nat.pow_le_pow_left h13 _) (Nat.pow_le_pow_right (by omega) hC)
  omega

theorem sol_next (u w1 : World) (M : Nat) (P Q : Value) (x : Value) (xss : List (List Int)) (R' C' : Nat) (hb : Below u.heap.size u w1) (p0 : w1.cell? ⟨u.heap.size + 1, 0, none⟩ = some P) (p1 : w1.cell? ⟨u.heap.size + 1, 1, none⟩ = some Q)
    (hx : Rows2 u x xss) (hm : IsMat xss R' C') (hR : 0 < R') (hC : 0 < C') (hM : 0 < M) (h13 : M ≤ 13) :
    Calls Try.prog 21 #[x, .int .i64 M] w1 fun e w' => e = .returned (.tuple #[.int .i64 (solL (smithL xss R' C') M C'), .int .i64 0]) ∧ Below u.heap.size u w' ∧ w'.cell? ⟨u.heap.size + 1, 0, none⟩ = some P ∧ w'.cell? ⟨u.heap.size + 1, 1, none⟩ = some Q := by
  refine (solutions_calls x xss R' C' M w1 (hx.below hb) hm hR hC hM h13).mono ?_
  rintro e w' ⟨rfl, h⟩
  have h0 := World.block_lt_of_cell? w1 _ p0
  exact ⟨rfl, hb.trans (h.mono hb.size), (h.cell (p := ⟨u.heap.size + 1, 0, none⟩) h0).trans p0, (h.cell (p := ⟨u.heap.size + 1, 1, none⟩) h0).trans p1⟩
theorem sol_first (u : World) (O : Obj) (M : Nat) (P Q : Value) (x : Value) (xss : List (List Int)) (R' C' : Nat)
    (hx : Rows2 u x xss) (hm : IsMat xss R' C') (hR : 0 < R') (hC : 0 < C') (hM : 0 < M) (h13 : M ≤ 13) :
    Calls Try.prog 21 #[x, .int .i64 M] ((u.alloc O).alloc (.cells #[P, Q] 32)) fun e w' => e = .returned (.tuple #[.int .i64 (solL (smithL xss R' C') M C'), .int .i64 0]) ∧ Below u.heap.size u w' ∧ w'.cell? ⟨u.heap.size + 1, 0, none⟩ = some P ∧ w'.cell? ⟨u.heap.size + 1, 1, none⟩ = some Q := by
  have hh := heap_alloc_new (u.alloc O) (.cells #[P, Q] 32)
  have hs : (u.alloc O).heap.size = u.heap.size + 1 := by simp
  rw [hs] at hh
  exact sol_next u _ M P Q x xss R' C' (((Below.refl _ _).alloc (Nat.le_refl _) _).alloc (by simp) _) (cell_of_row _ _ 0 _ _ (0, 0) hh) (cell_of_row _ _ 1 _ _ (0, 0) hh) hx hm hR hC hM h13

set_option maxHeartbeats 1000000 in
set_option maxRecDepth 100000 in
theorem matrixCounts_at (r : Nat) (hpq : r < 4) {w0 : World} (n : Int) (hn : I64 n) (c : Int) (hc : I64 c) (a : Value) (xs : List Int) (ha : Ints w0 a xs) (hxa : ∀ x ∈ xs, I64 x) (h : Int) (hh : I64 h) (w : World) (hw : w = w0) (hhr : h % 4 = (r : Int)) :
    Calls Try.prog 4 #[.int .i64 n, .int .i64 c, a, .int .i64 h] w fun e w' => e = .returned (.bool true) ∧ Below w.heap.size w w' := by
  subst hw
  obtain ⟨m, hm⟩ : ∃ m : Nat, n % 4 = (m : Int) := ⟨(n % 4).toNat, by omega⟩
  obtain ⟨k, hk⟩ : ∃ k : Nat, c % 4 = (k : Int) := ⟨(c % 4).toNat, by omega⟩
  have hm3 : m ≤ 3 := by omega
  have hk3 : k ≤ 3 := by omega
  have HM := Lib.hid hm; have HK := Lib.hid hk; clear hm hk
  have HHR := Lib.hid hhr; clear hhr
  have HB : Below w.heap.size w w := Below.refl _ _
  have MX := Lib.hid (isMat_matL (n := 1 + m) (c := 1 + k) (b := 50) xs (by omega) (by omega) (by omega))
  have HXA := Lib.hid hxa; clear hxa
  obtain ⟨L, hL⟩ : ∃ L, L = smithL (matL (1 + m) (1 + k) xs 50) (1 + m) (1 + k) := ⟨_, rfl⟩
  have HL := Lib.hid hL
  have hll : L.length ≤ 1 + k := by rw [hL, smithL_length]; omega
  clear hL
  go_enter Try.func4, Try.ntmps4
  go_wp2_with fail
  refine (below_nat n 4 m _ (by omega) (by omega) hn HM.out).mono ?_
  rintro e w' ⟨rfl, rfl⟩
  go_wp2_with fail
  refine (below_nat c 4 k _ (by omega) (by omega) hc HK.out).mono ?_
  rintro e w' ⟨rfl, rfl⟩
  go_wp2_with fail
  rw [show (1 + (m : Int)) = ((1 + m : Nat) : Int) from by omega, show (1 + (k : Int)) = ((1 + k : Nat) : Int) from by omega]
  refine (matrix_calls (1 + m) (1 + k) 50 a xs _ ha (by omega) (by omega) (by omega) HXA.out).mono ?_
  rintro e u3 ⟨x, rfl, hx0, hb3⟩
  replace ha := ha.below hb3
  replace HB := Below.chain HB hb3; clear hb3
  have hx := hx0.own.rows
  have s_hx := hx.isSl
  clear hx0
  rcases (show r = 0 ∨ r = 1 ∨ r = 2 ∨ r = 3 from by omega) with rfl | rfl | rfl | rfl
  · go_wp2_with fail
    refine (below_nat h 4 _ _ (by omega) (by omega) hh HHR.out).mono ?_
    rintro e w' ⟨rfl, rfl⟩
    go_wp2_with fail
    obtain ⟨X, hX⟩ : ∃ X, X = solL L 2 (1 + k) := ⟨_, rfl⟩
    obtain ⟨Y, hY⟩ : ∃ Y, Y = solL L 3 (1 + k) := ⟨_, rfl⟩
    have hZ : solL L 6 (1 + k) = X * Y := by rw [hX, hY]; exact solL_mul L (p := 2) (q := 3) (by decide) (1 + k)
    have hX0 : 0 < X := by rw [hX]; exact solL_pos L (by decide) (1 + k)
    have hXle : X ≤ 13 ^ 4 := by rw [hX]; exact solL_le L (by decide) (by decide) (by omega) (by omega)
    have hYle : Y ≤ 13 ^ 4 := by rw [hY]; exact solL_le L (by decide) (by decide) (by omega) (by omega)
    have hXY : X * Y ≤ 13 ^ 4 * 13 ^ 4 := Nat.mul_le_mul hXle hYle
    have z1 : (X : Int) * (Y : Int) = ((X * Y : Nat) : Int) := by rw [Int.natCast_mul]
    have z2 : IntKind.i64.wrap (((X * Y : Nat) : Int)) = ((X * Y : Nat) : Int) := IntWalk.i64_in _ (by omega)
    have z3 : (0 : Int) < (X : Int) := by omega
    have z4 : (0 : Int) ≤ (X : Int) * (Y : Int) := by omega
    have z5 : (X : Int) * (Y : Int) ≤ 1000000000000 := by omega
    have z6 : ((((X * Y : Nat) : Int)) == (X : Int) * (Y : Int)) = true := by rw [z1]; simp
    have HXX := Lib.hid hX; have HYY := Lib.hid hY; have HZZ := Lib.hid hZ; have Z1 := Lib.hid z1
    clear hX hY hZ z1 z2 hXY
    refine (sol_first _ _ 2 _ _ _ _ _ _ hx MX.out (by omega) (by omega) (by decide) (by decide)).mono ?_
    rintro e u4 ⟨rfl, hb4, p0, p1⟩
    rw [← HL.out, ← HXX.out]
    go_wp2_with fail
    refine (sol_next _ _ 3 _ _ _ _ _ _ hb4 p0 p1 hx MX.out (by omega) (by omega) (by decide) (by decide)).mono ?_
    rintro e u5 ⟨rfl, hb5, p2, p3⟩
    rw [← HL.out, ← HYY.out]
    go_wp2_with fail
    refine (sol_next _ _ 6 _ _ _ _ _ _ hb5 p2 p3 hx MX.out (by omega) (by omega) (by decide) (by decide)).mono ?_
    rintro e u6 ⟨rfl, hb6, p4, p5⟩
    rw [← HL.out, HZZ.out]
    go_wp2_with fail
    refine (reckoned_calls _).mono ?_
    rintro e u7 ⟨rfl, hb7⟩
    replace HB := Below.chain HB (Below.chain hb6 hb7)
    clear hb7
    go_wp2_with fail
    go_ret
    exact ⟨rfl, HB⟩
  · go_wp2_with fail
    refine (below_nat h 4 _ _ (by omega) (by omega) hh HHR.out).mono ?_
    rintro e w' ⟨rfl, rfl⟩
    go_wp2_with fail
    obtain ⟨X, hX⟩ : ∃ X, X = solL L 2 (1 + k) := ⟨_, rfl⟩
    obtain ⟨Y, hY⟩ : ∃ Y, Y = solL L 5 (1 + k) := ⟨_, rfl⟩
    have hZ : solL L 10 (1 + k) = X * Y := by rw [hX, hY]; exact solL_mul L (p := 2) (q := 5) (by decide) (1 + k)
    have hX0 : 0 < X := by rw [hX]; exact solL_pos L (by decide) (1 + k)
    have hXle : X ≤ 13 ^ 4 := by rw [hX]; exact solL_le L (by decide) (by decide) (by omega) (by omega)
    have hYle : Y ≤ 13 ^ 4 := by rw [hY]; exact solL_le L (by decide) (by decide) (by omega) (by omega)
    have hXY : X * Y ≤ 13 ^ 4 * 13 ^ 4 := Nat.mul_le_mul hXle hYle
    have z1 : (X : Int) * (Y : Int) = ((X * Y : Nat) : Int) := by rw [Int.natCast_mul]
    have z2 : IntKind.i64.wrap (((X * Y : Nat) : Int)) = ((X * Y : Nat) : Int) := IntWalk.i64_in _ (by omega)
    have z3 : (0 : Int) < (X : Int) := by omega
    have z4 : (0 : Int) ≤ (X : Int) * (Y : Int) := by omega
    have z5 : (X : Int) * (Y : Int) ≤ 1000000000000 := by omega
    have z6 : ((((X * Y : Nat) : Int)) == (X : Int) * (Y : Int)) = true := by rw [z1]; simp
    have HXX := Lib.hid hX; have HYY := Lib.hid hY; have HZZ := Lib.hid hZ; have Z1 := Lib.hid z1
    clear hX hY hZ z1 z2 hXY
    refine (sol_first _ _ 2 _ _ _ _ _ _ hx MX.out (by omega) (by omega) (by decide) (by decide)).mono ?_
    rintro e u4 ⟨rfl, hb4, p0, p1⟩
    rw [← HL.out, ← HXX.out]
    go_wp2_with fail
    refine (sol_next _ _ 5 _ _ _ _ _ _ hb4 p0 p1 hx MX.out (by omega) (by omega) (by decide) (by decide)).mono ?_
    rintro e u5 ⟨rfl, hb5, p2, p3⟩
    rw [← HL.out, ← HYY.out]
    go_wp2_with fail
    refine (sol_next _ _ 10 _ _ _ _ _ _ hb5 p2 p3 hx MX.out (by omega) (by omega) (by decide) (by decide)).mono ?_
    rintro e u6 ⟨rfl, hb6, p4, p5⟩
    rw [← HL.out, HZZ.out]
    go_wp2_with fail
    refine (reckoned_calls _).mono ?_
    rintro e u7 ⟨rfl, hb7⟩
    replace HB := Below.chain HB (Below.chain hb6 hb7)
    clear hb7
    go_wp2_with fail
    go_ret
    exact ⟨rfl, HB⟩
  · go_wp2_with fail
    refine (below_nat h 4 _ _ (by omega) (by omega) hh HHR.out).mono ?_
    rintro e w' ⟨rfl, rfl⟩
    go_wp2_with fail
    obtain ⟨X, hX⟩ : ∃ X, X = solL L 3 (1 + k) := ⟨_, rfl⟩
    obtain ⟨Y, hY⟩ : ∃ Y, Y = solL L 4 (1 + k) := ⟨_, rfl⟩
    have hZ : solL L 12 (1 + k) = X * Y := by rw [hX, hY]; exact solL_mul L (p := 3) (q := 4) (by decide) (1 + k)
    have hX0 : 0 < X := by rw [hX]; exact solL_pos L (by decide) (1 + k)
    have hXle : X ≤ 13 ^ 4 := by rw [hX]; exact solL_le L (by decide) (by decide) (by omega) (by omega)
    have hYle : Y ≤ 13 ^ 4 := by rw [hY]; exact solL_le L (by decide) (by decide) (by omega) (by omega)
    have hXY : X * Y ≤ 13 ^ 4 * 13 ^ 4 := Nat.mul_le_mul hXle hYle
    have z1 : (X : Int) * (Y : Int) = ((X * Y : Nat) : Int) := by rw [Int.natCast_mul]
    have z2 : IntKind.i64.wrap (((X * Y : Nat) : Int)) = ((X * Y : Nat) : Int) := IntWalk.i64_in _ (by omega)
    have z3 : (0 : Int) < (X : Int) := by omega
    have z4 : (0 : Int) ≤ (X : Int) * (Y : Int) := by omega
    have z5 : (X : Int) * (Y : Int) ≤ 1000000000000 := by omega
    have z6 : ((((X * Y : Nat) : Int)) == (X : Int) * (Y : Int)) = true := by rw [z1]; simp
    have HXX := Lib.hid hX; have HYY := Lib.hid hY; have HZZ := Lib.hid hZ; have Z1 := Lib.hid z1
    clear hX hY hZ z1 z2 hXY
    refine (sol_first _ _ 3 _ _ _ _ _ _ hx MX.out (by omega) (by omega) (by decide) (by decide)).mono ?_
    rintro e u4 ⟨rfl, hb4, p0, p1⟩
    rw [← HL.out, ← HXX.out]
    go_wp2_with fail
    refine (sol_next _ _ 4 _ _ _ _ _ _ hb4 p0 p1 hx MX.out (by omega) (by omega) (by decide) (by decide)).mono ?_
    rintro e u5 ⟨rfl, hb5, p2, p3⟩
    rw [← HL.out, ← HYY.out]
    go_wp2_with fail
    refine (sol_next _ _ 12 _ _ _ _ _ _ hb5 p2 p3 hx MX.out (by omega) (by omega) (by decide) (by decide)).mono ?_
    rintro e u6 ⟨rfl, hb6, p4, p5⟩
    rw [← HL.out, HZZ.out]
    go_wp2_with fail
    refine (reckoned_calls _).mono ?_
    rintro e u7 ⟨rfl, hb7⟩
    replace HB := Below.chain HB (Below.chain hb6 hb7)
    clear hb7
    go_wp2_with fail
    go_ret
    exact ⟨rfl, HB⟩
  · go_wp2_with fail
    refine (below_nat h 4 _ _ (by omega) (by omega) hh HHR.out).mono ?_
    rintro e w' ⟨rfl, rfl⟩
    go_wp2_with fail
    obtain ⟨X, hX⟩ : ∃ X, X = solL L 1 (1 + k) := ⟨_, rfl⟩
    obtain ⟨Y, hY⟩ : ∃ Y, Y = solL L 7 (1 + k) := ⟨_, rfl⟩
    have hZ : solL L 7 (1 + k) = X * Y := by rw [hX, hY]; exact solL_mul L (p := 1) (q := 7) (by decide) (1 + k)
    have hX0 : 0 < X := by rw [hX]; exact solL_pos L (by decide) (1 + k)
    have hXle : X ≤ 13 ^ 4 := by rw [hX]; exact solL_le L (by decide) (by decide) (by omega) (by omega)
    have hYle : Y ≤ 13 ^ 4 := by rw [hY]; exact solL_le L (by decide) (by decide) (by omega) (by omega)
    have hXY : X * Y ≤ 13 ^ 4 * 13 ^ 4 := Nat.mul_le_mul hXle hYle
    have z1 : (X : Int) * (Y : Int) = ((X * Y : Nat) : Int) := by rw [Int.natCast_mul]
    have z2 : IntKind.i64.wrap (((X * Y : Nat) : Int)) = ((X * Y : Nat) : Int) := IntWalk.i64_in _ (by omega)
    have z3 : (0 : Int) < (X : Int) := by omega
    have z4 : (0 : Int) ≤ (X : Int) * (Y : Int) := by omega
    have z5 : (X : Int) * (Y : Int) ≤ 1000000000000 := by omega
    have z6 : ((((X * Y : Nat) : Int)) == (X : Int) * (Y : Int)) = true := by rw [z1]; simp
    have HXX := Lib.hid hX; have HYY := Lib.hid hY; have HZZ := Lib.hid hZ; have Z1 := Lib.hid z1
    clear hX hY hZ z1 z2 hXY
    refine (sol_first _ _ 1 _ _ _ _ _ _ hx MX.out (by omega) (by omega) (by decide) (by decide)).mono ?_
    rintro e u4 ⟨rfl, hb4, p0, p1⟩
    rw [← HL.out, ← HXX.out]
    go_wp2_with fail
    refine (sol_next _ _ 7 _ _ _ _ _ _ hb4 p0 p1 hx MX.out (by omega) (by omega) (by decide) (by decide)).mono ?_
    rintro e u5 ⟨rfl, hb5, p2, p3⟩
    rw [← HL.out, ← HYY.out]
    go_wp2_with fail
    refine (sol_next _ _ 7 _ _ _ _ _ _ hb5 p2 p3 hx MX.out (by omega) (by omega) (by decide) (by decide)).mono ?_
    rintro e u6 ⟨rfl, hb6, p4, p5⟩
    rw [← HL.out, HZZ.out]
    go_wp2_with fail
    refine (reckoned_calls _).mono ?_
    rintro e u7 ⟨rfl, hb7⟩
    replace HB := Below.chain HB (Below.chain hb6 hb7)
    clear hb7
    go_wp2_with fail
    go_ret
    exact ⟨rfl, HB⟩

theorem matrixCounts_true {w0 : World} (n : Int) (hn : I64 n) (c : Int) (hc : I64 c) (a : Value) (xs : List Int) (ha : Ints w0 a xs) (hxa : ∀ x ∈ xs, I64 x) (h : Int) (hh : I64 h) (w : World) (hw : w = w0 := by rfl) :
    Calls Try.prog 4 #[.int .i64 n, .int .i64 c, a, .int .i64 h] w fun e w' => e = .returned (.bool true) ∧ Below w.heap.size w w' :=
  matrixCounts_at (h % 4).toNat (by omega) n hn c hc a xs ha hxa h hh w hw (by omega)

end Go.Proofs.Ytbopcejelddooaa

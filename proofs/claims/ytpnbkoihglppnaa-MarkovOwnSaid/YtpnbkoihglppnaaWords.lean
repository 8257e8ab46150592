/- Words: freegroup's exported functions Reduce, Product, Inverse, walked. -/
import Derived.Test.YtpnbkoihglppnaaReduced
import Derived.Test.YtpnbkoihglppnaaBackward
import Derived.Test.YtpnbkoihglppnaaPermGroup
namespace Go.Proofs.Ytpnbkoihglppnaa
open Go.RowKit Go.Sl

theorem IsWord.small {xs : List Int} (h : IsWord xs) : ∀ x ∈ xs, -1000 ≤ x ∧ x ≤ 1000 := fun x hx => by have := h x hx; omega
theorem IsWord.inv {xs : List Int} (h : IsWord xs) : IsWord (invL xs) := by
  intro x hx
  simp only [invL, List.mem_reverse, List.mem_map] at hx
  obtain ⟨y, hy, rfl⟩ := hx
  have := h y hy
  omega
theorem IsWord.red {xs : List Int} (h : IsWord xs) : IsWord (redL xs) := fun x hx => h x (redL_mem hx)
theorem IsWord.append {xs ys : List Int} (h : IsWord xs) (k : IsWord ys) : IsWord (xs ++ ys) := fun x hx => (List.mem_append.1 hx).elim (h x) (k x)
theorem invL_length (xs : List Int) : (invL xs).length = xs.length := by simp [invL]

theorem rowsV_1 {w : World} {v : Value} {xs : List Int} (h : Ints w v xs) : RowsV (w.alloc (.cells #[v] 22)) (.slice (some ⟨w.heap.size, 0, none⟩) 1 1) [v] [xs] := by
  refine ⟨sl_one w v _, rfl, fun i hi => ?_⟩
  obtain rfl : i = 0 := by simpa using hi
  exact h.alloc _
theorem sl_two (w : World) (u v : Value) (e : TypeId) : Sl (w.alloc (.cells #[u, v] e)) (.slice (some ⟨w.heap.size, 0, none⟩) 2 2) 1 [u, v] := by
  refine ⟨isSl_mk _ _ _ _ (Nat.le_refl _) (by unfold maxLen; omega), by simp, fun j x hx => ?_⟩
  match j, hx with
  | 0, hx =>
    simp at hx; subst hx
    exact cell_of_row (w.alloc (.cells #[u, v] e)) w.heap.size 0 #[u, v] e (0, 0) (heap_alloc_new w (.cells #[u, v] e))
  | 1, hx =>
    simp at hx; subst hx
    exact cell_of_row (w.alloc (.cells #[u, v] e)) w.heap.size 1 #[u, v] e (0, 0) (heap_alloc_new w (.cells #[u, v] e))
theorem rowsV_2 {w : World} {u v : Value} {xs ys : List Int} (h : Ints w u xs) (k : Ints w v ys) : RowsV (w.alloc (.cells #[u, v] 22)) (.slice (some ⟨w.heap.size, 0, none⟩) 2 2) [u, v] [xs, ys] := by
  refine ⟨sl_two w u v _, rfl, fun i hi => ?_⟩
  simp only [List.length_cons, List.length_nil] at hi
  rcases (show i = 0 ∨ i = 1 by omega) with rfl | rfl
  · exact h.alloc _
  · exact k.alloc _

theorem fboth_calls (a b : Value) (xs ys : List Int) (w : World) (ha : Ints w a xs) (hb : Ints w b ys) (hx : IsWord xs) (hy : IsWord ys) (hl : xs.length ≤ 60) (hm : ys.length ≤ 60) :
    Calls Try.prog 109 #[a, b] w fun e w' => e = .returned (.int .i64 0) ∧ w = w' := by
  go_enter Try.func109, Try.ntmps109
  go_wp2_with fail
  refine (fcheck_calls _ _ _ ha hx hl).mono ?_
  rintro e w' ⟨rfl, rfl⟩
  go_wp2_with fail
  refine (fcheck_calls _ _ _ hb hy hm).mono ?_
  rintro e w' ⟨rfl, rfl⟩
  go_wp2_with fail
  go_ret
  exact ⟨rfl, rfl⟩

theorem reduce_calls (a : Value) (xs : List Int) (w : World) (ha : Ints w a xs) (hx : IsWord xs) (hl : xs.length ≤ 60) :
    Calls Try.prog 58 #[a] w fun e w' => ∃ v, e = .returned (.tuple #[v, .int .i64 0]) ∧ OwnI w' w.heap.size v (redL xs) ∧ Below w.heap.size w w' := by
  have sa := ha.isSl
  go_enter Try.func58, Try.ntmps58
  go_wp2_with fail
  refine (fcheck_calls _ _ _ ha hx hl).mono ?_
  rintro e w' ⟨rfl, rfl⟩
  have HA := Lib.hid ha; clear ha
  have HX := Lib.hid hx; clear hx
  go_wp2_with (refine wpList_rows1 rfl (.tmp 10) rfl rfl sa ?_)
  refine (reduced_calls _ _ [xs] _ (rowsV_1 HA.out) (by intro ys hy; simp at hy; subst hy; exact HX.out.small) (by simp; omega)).mono ?_
  rintro e w1 ⟨v, rfl, hv, hb⟩
  simp only [List.flatten_cons, List.flatten_nil, List.append_nil] at hv
  go_wp2_with fail
  go_ret2
  exact ⟨_, rfl, hv.low (by simp), Below.chain ((Below.refl _ _).alloc (Nat.le_refl _) _) hb⟩

theorem finverse_calls (a : Value) (xs : List Int) (w : World) (ha : Ints w a xs) (hx : IsWord xs) (hl : xs.length ≤ 60) :
    Calls Try.prog 61 #[a] w fun e w' => ∃ v, e = .returned (.tuple #[v, .int .i64 0]) ∧ OwnI w' w.heap.size v (redL (invL xs)) ∧ Below w.heap.size w w' := by
  have sa := ha.isSl
  go_enter Try.func61, Try.ntmps61
  go_wp2_with fail
  refine (fcheck_calls _ _ _ ha hx hl).mono ?_
  rintro e w' ⟨rfl, rfl⟩
  have HX := Lib.hid hx; clear hx
  go_wp2_with fail
  refine (inverted_calls _ xs _ ha HX.out.small (by omega)).mono ?_
  rintro e w1 ⟨v, rfl, hv, hb⟩
  have sv := hv.isSl
  have hbs := hb.size
  have HV := Lib.hid hv; clear hv
  have HBB := Lib.hid hb; clear hb
  go_wp2_with (refine wpList_rows1 rfl (.tmp 11) rfl rfl sv ?_)
  refine (reduced_calls _ _ [invL xs] _ (rowsV_1 HV.out.ints) (by intro ys hy; simp at hy; subst hy; exact HX.out.inv.small) (by simp [invL_length]; omega)).mono ?_
  rintro e w2 ⟨u, rfl, hu, hb2⟩
  simp only [List.flatten_cons, List.flatten_nil, List.append_nil] at hu
  go_wp2_with fail
  go_ret2
  exact ⟨_, rfl, hu.low (by simp; omega), Below.chain HBB.out (Below.chain ((Below.refl _ _).alloc (Nat.le_refl _) _) hb2)⟩

theorem fproduct_calls (a b : Value) (xs ys : List Int) (w : World) (ha : Ints w a xs) (hb : Ints w b ys) (hx : IsWord xs) (hy : IsWord ys) (hl : xs.length ≤ 60) (hm : ys.length ≤ 60) (hr : (redL (xs ++ ys)).length ≤ 60) :
    Calls Try.prog 108 #[a, b] w fun e w' => ∃ v, e = .returned (.tuple #[v, .int .i64 0]) ∧ OwnI w' w.heap.size v (redL (xs ++ ys)) ∧ Below w.heap.size w w' := by
  have sa := ha.isSl
  have sb := hb.isSl
  obtain ⟨R, hR⟩ : ∃ R, R = redL (xs ++ ys) := ⟨_, rfl⟩
  rw [← hR] at hr ⊢
  have HR := Lib.hid hR; clear hR
  go_enter Try.func108, Try.ntmps108
  go_wp2_with fail
  refine (fboth_calls _ _ _ _ _ ha hb hx hy hl hm).mono ?_
  rintro e w' ⟨rfl, rfl⟩
  have HA := Lib.hid ha; clear ha
  have HB := Lib.hid hb; clear hb
  have HX := Lib.hid hx; clear hx
  have HY := Lib.hid hy; clear hy
  go_wp2_with (refine wpList_rows2 rfl (.tmp 14) (.tmp 15) rfl rfl rfl sa sb ?_)
  refine (reduced_calls _ _ [xs, ys] _ (rowsV_2 HA.out HB.out) (by intro zs hz; simp at hz; rcases hz with rfl | rfl; exact HX.out.small; exact HY.out.small) (by simp; omega)).mono ?_
  rintro e w1 ⟨v, rfl, hv, hbw⟩
  simp only [List.flatten_cons, List.flatten_nil, List.append_nil] at hv
  rw [← HR.out] at hv
  have sv := hv.isSl
  have lv := hv.len
  go_wp2_with fail
  go_ret2
  exact ⟨_, rfl, hv.low (by simp), Below.chain ((Below.refl _ _).alloc (Nat.le_refl _) _) hbw⟩

theorem times_calls (a b : Value) (xs ys : List Int) (w : World) (ha : Ints w a xs) (hb : Ints w b ys) (hx : IsWord xs) (hy : IsWord ys) (hl : xs.length ≤ 60) (hm : ys.length ≤ 60) (hr : (redL (xs ++ ys)).length ≤ 60) :
    Calls Try.prog 60 #[a, b] w fun e w' => ∃ v, e = .returned v ∧ OwnI w' w.heap.size v (redL (xs ++ ys)) ∧ Below w.heap.size w w' := by
  have H := fproduct_calls a b xs ys w ha hb hx hy hl hm hr
  have HH := Lib.hid H; clear H ha hb hx hy hl hm hr
  go_enter Try.func60, Try.ntmps60
  go_wp2_with (go_at_call 108; refine HH.out.mono ?_; rintro e w' ⟨v, rfl, hv, hb⟩)
  go_ret
  exact ⟨_, rfl, hv, hb⟩

theorem isWord_of {xs : List Int} (h : xs.all (fun x => x != 0 && decide (-6 ≤ x) && decide (x ≤ 6)) = true) : IsWord xs := by
  intro x hx
  have := List.all_eq_true.1 h x hx
  simp at this
  exact ⟨this.1.1, this.1.2, this.2⟩

theorem freduced_calls (w : World) :
    Calls Try.prog 59 #[] w fun e w' => e = .returned (.bool true) ∧ Below w.heap.size w w' := by
  go_enter Try.func59, Try.ntmps59
  go_wp2_with fail
  refine (fproduct_calls _ _ [1, 2] [-2, 3] _ ((ints_lit [1, 2] (by simp) rfl rfl (by decide)).alloc _) (ints_lit [-2, 3] (by simp) rfl rfl (by decide)) (isWord_of (by decide)) (isWord_of (by decide)) (by decide) (by decide) (by decide)).mono ?_
  rintro e w1 ⟨v1, rfl, hv1, hb1⟩
  have sv1 := hv1.isSl
  have b1 : Below w.heap.size w w1 := Below.chain (((Below.refl _ _).alloc (Nat.le_refl _) _).alloc (by simp) _) hb1
  have HB1 := Lib.hid b1; clear b1 hb1
  have HV1 := Lib.hid hv1.ints; clear hv1
  go_wp2_with fail
  refine (equal_yes _ _ _ [1, 3] _ (HV1.out.alloc _) (ints_lit [1, 3] (by simp) rfl rfl (by decide)) (by decide)).mono ?_
  rintro e w2 ⟨rfl, hb2⟩
  go_wp2_with fail
  go_ret
  exact ⟨rfl, Below.chain HB1.out (Below.chain ((Below.refl _ _).alloc (Nat.le_refl _) _) hb2)⟩

end Go.Proofs.Ytpnbkoihglppnaa

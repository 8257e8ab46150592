/- freegroup.turned and Root walked. -/
import Derived.Test.YtkimbhmijgfhnaaCyclic
namespace Go.Proofs.Ytkimbhmijgfhnaa
open Go.RowKit Go.Sl

set_option maxRecDepth 100000 in
theorem turned_calls (a : Value) (xs : List Int) (k : Nat) (w : World) (ha : Ints w a xs) (hk : k ≤ xs.length) (hl : xs.length ≤ 1000) :
    Calls Try.prog 93 #[a, .int .i64 k] w fun e w' => ∃ v, e = .returned v ∧ OwnI w' w.heap.size v (xs.drop k ++ xs.take k) ∧ Below w.heap.size w w' := by
  have sa := ha.isSl
  have la := ha.len
  have hcap := ha.cap
  obtain ⟨n, hn⟩ : ∃ n, xs.length = n := ⟨_, rfl⟩
  rw [hn] at hk hl la hcap
  have hkc : k ≤ vcap a := by omega
  have h1 : Ints w (vcut a k n (vcap a) 1) (xs.drop k) := by
    have := ha.cut (l := k) (r := n) (m := vcap a) hk (by omega) hcap (Nat.le_refl _)
    rwa [List.take_of_length_le (by simp; omega)] at this
  have h2 : Ints w (vcut a 0 k (vcap a) 1) (xs.take k) := by
    have := ha.cut (l := 0) (r := k) (m := vcap a) (Nat.zero_le _) (by omega) hkc (Nat.le_refl _)
    simpa using this
  have s1 := h1.isSl
  have s2 := h2.isSl
  have hfl : [xs.drop k, xs.take k].flatten.length ≤ 100000 := by simp; omega
  have hb0 : Below w.heap.size w w.drew := (Below.refl _ _).drew
  have H1 := Lib.hid (h1.below hb0); have H2 := Lib.hid (h2.below hb0); have HFL := Lib.hid hfl; have HB0 := Lib.hid hb0
  clear ha hn h1 h2 hfl hb0
  go_enter Try.func93, Try.ntmps93
  go_wp2_with fail
  go_region_held3 (fun _ => True) (exact trivial)
    (first
      | (go_at_call 29; refine (concat_calls _ [vcut a k n (vcap a) 1, vcut a 0 k (vcap a) 1] [xs.drop k, xs.take k] _ (rowsV_2 H1.out H2.out) HFL.out).mono ?_; rintro e w' ⟨v, rfl, hv, hb⟩; have sv := hv.isSl)
      | fail "arm")
  all_goals
    simp only [List.flatten_cons, List.flatten_nil, List.append_nil] at hv
    have HV := Lib.hid (hv.low (show w.heap.size ≤ _ by simp))
    have HBB := Lib.hid (Below.chain HB0.out (Below.chain ((Below.refl _ _).alloc (Nat.le_refl _) _) hb))
    clear hv hb
    go_wp2_with fail
    go_ret
    exact ⟨_, rfl, HV.out, HBB.out⟩

theorem sl_three (w : World) (u v x : Value) (e : TypeId) : Sl (w.alloc (.cells #[u, v, x] e)) (.slice (some ⟨w.heap.size, 0, none⟩) 3 3) 1 [u, v, x] := by
  refine ⟨isSl_mk _ _ _ _ (Nat.le_refl _) (by unfold maxLen; omega), by simp, fun j y hj => ?_⟩
  match j, hj with
  | 0, hj =>
    simp at hj; subst hj
    exact cell_of_row (w.alloc (.cells #[u, v, x] e)) w.heap.size 0 #[u, v, x] e (0, 0) (heap_alloc_new w (.cells #[u, v, x] e))
  | 1, hj =>
    simp at hj; subst hj
    exact cell_of_row (w.alloc (.cells #[u, v, x] e)) w.heap.size 1 #[u, v, x] e (0, 0) (heap_alloc_new w (.cells #[u, v, x] e))
  | 2, hj =>
    simp at hj; subst hj
    exact cell_of_row (w.alloc (.cells #[u, v, x] e)) w.heap.size 2 #[u, v, x] e (0, 0) (heap_alloc_new w (.cells #[u, v, x] e))
  | j + 3, hj => simp at hj
theorem rowsV_3 {w : World} {u v x : Value} {xs ys zs : List Int} (h : Ints w u xs) (k : Ints w v ys) (l : Ints w x zs) : RowsV (w.alloc (.cells #[u, v, x] 22)) (.slice (some ⟨w.heap.size, 0, none⟩) 3 3) [u, v, x] [xs, ys, zs] := by
  refine ⟨sl_three w u v x _, rfl, fun i hi => ?_⟩
  simp only [List.length_cons, List.length_nil] at hi
  rcases (show i = 0 ∨ i = 1 ∨ i = 2 by omega) with rfl | rfl | rfl
  · exact h.alloc _
  · exact k.alloc _
  · exact l.alloc _

theorem cond_last {e : List Int} (h : 0 < e.length) : Cond e e.length := by
  unfold Cond
  rw [Nat.mod_self]
  simp
theorem isWord_mem {xs ys : List Int} (h : IsWord xs) (hs : ∀ y ∈ ys, y ∈ xs) : IsWord ys := fun y hy => h y (hs y hy)
theorem head_mem {c : List Int} : ∀ y ∈ headL c, y ∈ c := fun y hy => List.mem_of_mem_take hy
theorem core_mem {c : List Int} : ∀ y ∈ coreL c, y ∈ c := fun y hy => List.mem_of_mem_drop (List.mem_of_mem_take hy)
theorem parts_length (c : List Int) : 2 * (headL c).length + (coreL c).length = c.length := by
  have h := congrArg List.length (strip_parts c)
  rw [List.length_append, List.length_append, invL_length'] at h
  omega

end Go.Proofs.Ytkimbhmijgfhnaa

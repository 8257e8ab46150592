/- laurent.Check, both, Fit, Add, Sub, Mul and the statements' mul, add, same, walked. -/
import Derived.Test.YtckopilciekfbaaQJonesOne0
import Derived.Test.YtckopilciekfbaaQJonesOne1
import Derived.Test.YtckopilciekfbaaQJonesOne5
import Derived.Test.YtckopilciekfbaaQJonesOne6
import Derived.Test.YtckopilciekfbaaQJonesOne7
import Derived.Test.YtckopilciekfbaaQJonesOne8
import Derived.Test.YtckopilciekfbaaQJonesOne9
import Derived.Test.YtckopilciekfbaaQJonesOne13
import Derived.Test.YtckopilciekfbaaQJonesOne14
import Derived.Test.YtckopilciekfbaaQJonesOne15
import Derived.Test.YtckopilciekfbaaQJonesOne16

namespace Go.Proofs.Ytckopilciekfbaa
open Go.RowKit Go.Sl

/-- A polynomial as Check wants it. -/
structure POk (p : LP) : Prop where
  len : p.c.length ≤ 200
  lo1 : -1000 ≤ p.low
  lo2 : p.low ≤ 1000
  tr : Trimmed p
  co : n1 p.c ≤ 1000000000 ∧ ∀ x ∈ p.c, -100000000 ≤ x ∧ x ≤ 100000000
theorem POk.of {p : LP} {lo hi : Int} (ht : Trimmed p) (hw : Within p lo hi) (h1 : -1000 ≤ lo) (h2 : lo ≤ 0) (h3 : hi ≤ lo + 200) (_h5 : hi ≤ 1000) (hn : n1 p.c ≤ 100000000) : POk p := by
  rcases hw with h | h
  · have h0 := ht.zero h
    exact ⟨by rw [h]; simp, by omega, by omega, ht, by omega, fun x hx => by rw [h] at hx; cases hx⟩
  · refine ⟨by omega, by omega, ?_, ht, by omega, fun x hx => by have := n1_mem hx; omega⟩
    by_cases e : p.c = []
    · rw [ht.zero e]; omega
    · have := List.length_pos_iff.2 e; omega

theorem lcheck1_calls (x : Int) (w : World) (h1 : ¬ x < -100000000) (h2 : ¬ 100000000 < x) :
    Calls Try.prog 105 #[.int .i64 x] w fun e w' => e = .returned (.bool false) ∧ w = w' := by
  have e1 : decide (x < -100000000) = false := decide_eq_false h1
  have e2 : decide (100000000 < x) = false := decide_eq_false h2
  go_enter Try.func105, Try.ntmps105
  go_wp2
  go_ret
  exact ⟨rfl, rfl⟩

set_option maxRecDepth 100000 in
theorem lcheck_calls (p : LP) (s : Value) (w : World) (hs : Ints w s p.c) (h : POk p) :
    Calls Try.prog 68 #[.agg #[.int .i64 p.low, s]] w fun e w' => e = .returned (.int .i64 0) ∧ Below w.heap.size w w' := by
  obtain ⟨hlen, hl1, hl2, htr, -, hco⟩ := h
  have ss := hs.isSl
  have ls := hs.len
  have HS := Lib.hid hs; clear hs
  have HC := Lib.hid hco; clear hco
  have hcall : ∀ W : World, Ints W s p.c → Calls Try.prog 77 #[s, .func (.func 105) #[] #[]] W fun e w' => e = .returned (.bool false) ∧ W = w' := fun W hW =>
    containsFunc_none _ p.c _ _ (enters_any (Go.Proofs.enters_of Try.func105 (by kernel_rfl) rfl)) _ hW fun x hx => by
      have := HC.out x hx
      exact lcheck1_calls x W (by omega) (by omega)
  have HCALL := Lib.hid hcall; clear hcall
  have b1 : ¬ p.low < -1000 := by omega
  have b2 : ¬ 1000 < p.low := by omega
  by_cases hc : p.c = []
  · have h0 := htr.zero hc
    rw [hc] at ls hlen
    have ls0 : vlen s = 0 := by simpa using ls
    clear htr ls
    have HH0 := Lib.hid h0; clear h0 hc
    rw [HH0.out] at b1 b2 hl1 hl2 ⊢
    go_enter Try.func68, Try.ntmps68
    go_wp2_with (go_at_call 77; refine (HCALL.out _ (HS.out.alloc _)).mono ?_; rintro e w' ⟨rfl, rfl⟩)
    go_ret
    exact ⟨rfl, (Below.refl _ _).alloc (Nat.le_refl _) _⟩
  · obtain ⟨n, hn⟩ : ∃ n, p.c.length = n := ⟨_, rfl⟩
    have hn0 : 0 < n := by rw [← hn]; exact List.length_pos_iff.2 hc
    have f1 := htr.first hc
    have f2 := htr.last hc
    rw [hn] at ls hlen f2
    obtain ⟨m, hm⟩ : ∃ m, m = n - 1 := ⟨_, rfl⟩
    rw [← hm] at f2
    have hm1 : m < n := by omega
    have hmi : (n : Int) - 1 = (m : Int) := by omega
    have hnz : ((n : Int) == 0) = false := by rw [beq_eq_false_iff_ne]; omega
    have hni : (0 : Int) < (n : Int) := by omega
    have g1 : (nth p.c 0 == 0) = false := by simp [f1]
    have g2 : (nth p.c m == 0) = false := by simp [f2]
    have c1 := (HS.out.alloc (.cells #[.int .i64 p.low, s] 35)).cell (k := 0) (by omega)
    have c2 := (HS.out.alloc (.cells #[.int .i64 p.low, s] 35)).cell (k := m) (by omega)
    have HN := Lib.hid hn; have HM := Lib.hid hm
    clear htr hn hm f1 f2 hc
    go_enter Try.func68, Try.ntmps68
    go_wp2_with (go_at_call 77; refine (HCALL.out _ (HS.out.alloc _)).mono ?_; rintro e w' ⟨rfl, rfl⟩)
    go_ret
    exact ⟨rfl, (Below.refl _ _).alloc (Nat.le_refl _) _⟩

theorem same_yes (p q : LP) (s t : Value) (w : World) (hs : Ints w s p.c) (ht : Ints w t q.c) (h : p = q) :
    Calls Try.prog 26 #[.agg #[.int .i64 p.low, s], .agg #[.int .i64 q.low, t]] w fun e w' => e = .returned (.bool true) ∧ Below w.heap.size w w' := by
  subst h
  have ss := hs.isSl
  have st := ht.isSl
  have HS := Lib.hid hs; have HT := Lib.hid ht; clear hs ht
  go_enter Try.func26, Try.ntmps26
  go_wp2_with fail
  refine (equal_yes _ _ p.c p.c _ ((HS.out.alloc _).alloc _) ((HT.out.alloc _).alloc _) rfl).mono ?_
  rintro e u1 ⟨rfl, hb1⟩
  go_wp2_with fail
  go_ret
  exact ⟨rfl, Below.chain (((Below.refl _ _).alloc (Nat.le_refl _) _).alloc (by simp) _) hb1⟩

end Go.Proofs.Ytckopilciekfbaa


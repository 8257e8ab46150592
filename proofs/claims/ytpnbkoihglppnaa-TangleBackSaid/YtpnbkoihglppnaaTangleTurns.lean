/- TangleTurns: for every input the statement returns true, and nothing that was there has changed. -/
import Derived.Test.YtpnbkoihglppnaaFraction
namespace Go.Proofs.Ytpnbkoihglppnaa
open Go.RowKit Go.Sl

theorem below_lits {v u : World} {o : Obj} (hb : Below (v.alloc o).heap.size (v.alloc o) u) : Below v.heap.size v u := Below.chain ((Below.refl _ _).alloc (Nat.le_refl _) o) hb
theorem Pair.step {v u : World} {B : Nat} {t : TypeId} {x y : Value} (h : Pair v B t x y) (hb : Below v.heap.size v u) (o : Obj) : Pair (u.alloc o) B t x y := (h.below hb).alloc o
theorem below_step {w v u : World} (h : Below w.heap.size w v) (hb : Below v.heap.size v u) (o : Obj) : Below w.heap.size w (u.alloc o) := (Below.chain h hb).alloc (by have := h.size; have := hb.size; omega) o

def OkAll (f : Int × Int) (ops : List Int) : Prop := ∀ k, k ≤ ops.length → FOk (applyL f (ops.take k))
theorem okAll_nil {f : Int × Int} (h : FOk f) : OkAll f [] := fun k _ => by simpa [applyL] using h
theorem okAll_cons {f : Int × Int} {x : Int} {ops : List Int} (h : FOk f) (k : OkAll (stepF f x) ops) : OkAll f (x :: ops) := fun j hj => by
  cases j with
  | zero => simpa [applyL] using h
  | succ j => rw [List.take_succ_cons]; exact k j (by simpa using hj)
theorem turn_turn {n d : Int} (h : FracOk n d) : turnF (turnF n d).1 (turnF n d).2 = (n, d) := by
  have h1 := h.inf; have h2 := h.d0; have h3 := h.gcd
  rcases Int.lt_trichotomy n 0 with hn | hn | hn
  · have e : turnF n d = (d, -n) := by unfold turnF; rw [if_pos hn]
    rw [e]
    have hd : 0 < d := by omega
    unfold turnF
    rw [if_neg (by omega), if_neg (by omega)]; simp
  · subst hn
    have e : turnF 0 d = (1, 0) := rfl
    rw [e]
    have : d = 1 := by simp at h3; omega
    subst this; rfl
  · have e : turnF n d = (-d, n) := by unfold turnF; rw [if_neg (by omega), if_neg (by omega)]
    rw [e]
    unfold turnF
    by_cases hd : 0 < d
    · rw [if_pos (by omega)]; simp
    · have hd0 : d = 0 := by omega
      have : n = 1 := h1 hd0
      subst hd0 this; rfl
theorem stepF_plus {n d k : Int} (hk : k ≠ 0) : stepF (n, d) k = (n + k * d, d) := by unfold stepF; rw [if_neg hk]
theorem stepF_turn (n d : Int) : stepF (n, d) 0 = turnF n d := rfl

theorem rational_calls (w : World) :
    Calls Try.prog 54 #[] w fun e w' => e = .returned (.bool true) ∧ Below w.heap.size w w' := by
  go_enter Try.func54, Try.ntmps54
  go_wp2_with fail
  refine (untangle_calls 1 2 _ ⟨by decide, by decide, by decide, by decide, by decide, by decide⟩).mono ?_
  rintro e w1 ⟨v1, rfl, hv1, hb1⟩
  have hu : untL 1 2 = [-1, 0, -2] := by decide
  rw [hu] at hv1
  have sv1 := hv1.isSl
  have HB1 := Lib.hid hb1; clear hb1
  have HV1 := Lib.hid hv1.ints; clear hv1 hu
  go_wp2_with fail
  refine (equal_yes _ _ _ [-1, 0, -2] _ (HV1.out.alloc _) (ints_lit [-1, 0, -2] (by simp) rfl rfl (by decide)) rfl).mono ?_
  rintro e w2 ⟨rfl, hb2⟩
  go_wp2_with fail
  go_ret
  exact ⟨rfl, Below.chain HB1.out (below_lits hb2)⟩

end Go.Proofs.Ytpnbkoihglppnaa

/- tangle.class, Class, Equivalent walked; what the second invariant is. -/
import Derived.Test.YtpnbkoihglppnaaTangleTurns
import Derived.Test.YtpnbkoihglppnaaMinMax
namespace Go.Proofs.Ytpnbkoihglppnaa
open Go.RowKit Go.Sl

def qF (n d : Int) : Int := if n < 0 then ((n.natAbs : Int) - d % n.natAbs) % n.natAbs else d % n.natAbs
/-- m is the second invariant of n/d. -/
def ClassOf (n d m : Int) : Prop := (n.natAbs ≤ 1 ∧ m = 0) ∨ (1 < n.natAbs ∧ ∃ i : Int, 0 < i ∧ i < n.natAbs ∧ (i * qF n d) % n.natAbs = 1 ∧ m = min (qF n d) i)

theorem dvd_of_emod {a p r : Int} (h : a % p = r % p) : p ∣ a - r := by
  exact Int.dvd_of_emod_eq_zero (Int.emod_eq_emod_iff_emod_sub_eq_zero.1 h)
theorem emod_of_dvd {a p r : Int} (h : p ∣ a - r) : a % p = r % p := Int.emod_eq_emod_iff_emod_sub_eq_zero.2 (Int.emod_eq_zero_of_dvd h)
theorem qF_range {n d : Int} (h : 0 < n.natAbs) : 0 ≤ qF n d ∧ qF n d < n.natAbs := by
  unfold qF
  split
  · exact ⟨Int.emod_nonneg _ (by omega), Int.emod_lt_of_pos _ (by omega)⟩
  · exact ⟨Int.emod_nonneg _ (by omega), Int.emod_lt_of_pos _ (by omega)⟩
theorem gcd_emod' (a p : Int) : Int.gcd p (a % p) = Int.gcd p a := by rw [Int.emod_def]; simp
theorem gcd_qF {n d : Int} (h : Nat.gcd n.natAbs d.natAbs = 1) : Nat.gcd n.natAbs (qF n d).natAbs = 1 := by
  have h0 : Int.gcd (n.natAbs : Int) d = 1 := by simpa [Int.gcd] using h
  have h1 : Int.gcd (n.natAbs : Int) (d % n.natAbs) = 1 := by rw [gcd_emod']; exact h0
  have key : Int.gcd (n.natAbs : Int) (qF n d) = 1 := by
    unfold qF
    split
    · rw [gcd_emod', Int.gcd_self_sub_right]; exact h1
    · exact h1
  simpa [Int.gcd] using key

theorem inv_unique {p q i j : Int} (hi : (i * q) % p = 1) (hj : (j * q) % p = 1) (i0 : 0 ≤ i) (i1 : i < p) (j0 : 0 ≤ j) (j1 : j < p) : i = j := by
  have h1 : p ∣ i * q - 1 := by
    have := Int.emod_emod_of_dvd (i * q) (Int.dvd_refl p)
    refine Int.dvd_of_emod_eq_zero ?_
    rw [Int.sub_emod, hi]; simp
  have h2 : p ∣ j * q - 1 := by
    refine Int.dvd_of_emod_eq_zero ?_
    rw [Int.sub_emod, hj]; simp
  obtain ⟨u, hu⟩ := h1
  obtain ⟨v, hv⟩ := h2
  have h3 : p ∣ i - j := by
    refine ⟨i * (-v) + j * u, ?_⟩
    have e1 : i * (j * q - 1) = i * (p * v) := by rw [hv]
    have e2 : j * (i * q - 1) = j * (p * u) := by rw [hu]
    grind
  obtain ⟨k, hk⟩ := h3
  rcases Int.lt_trichotomy k 0 with h | h | h
  · have : p * k ≤ p * (-1) := Int.mul_le_mul_of_nonneg_left (by omega) (by omega)
    omega
  · rw [h] at hk; omega
  · have : p * 1 ≤ p * k := Int.mul_le_mul_of_nonneg_left (by omega) (by omega)
    omega

/-- Between two rounds of the search for the inverse. -/
structure InvSt (p q a b x y : Int) : Prop where
  a1 : 1 ≤ a
  b1 : 1 ≤ b
  ap : a ≤ p
  bp : b ≤ p
  cop : Nat.gcd a.natAbs b.natAbs = 1
  ma : p ∣ x * q - a
  mb : p ∣ y * q - b
  sz : (0 ≤ y ∧ x ≤ 0 ∧ b * (-x) + a * y = p) ∨ (y ≤ 0 ∧ 0 ≤ x ∧ b * x + a * (-y) = p)
theorem InvSt.size {p q a b x y : Int} (h : InvSt p q a b x y) : x.natAbs ≤ p.natAbs ∧ y.natAbs ≤ p.natAbs ∧ (a / b * y).natAbs ≤ p.natAbs ∧ 0 ≤ a / b * b ∧ a / b * b ≤ a := by
  have hk0 : 0 ≤ a / b := Int.ediv_nonneg (by have := h.a1; omega) (by have := h.b1; omega)
  have hkb : a / b * b ≤ a := Int.ediv_mul_le a (by have := h.b1; omega)
  have hkb0 : 0 ≤ a / b * b := Int.mul_nonneg hk0 (by have := h.b1; omega)
  have hka : a / b ≤ a := Int.ediv_le_self _ (by have := h.a1; omega)
  have hp : 0 ≤ p := by have := h.ap; have := h.a1; omega
  have key : ∀ u v : Int, 0 ≤ u → 0 ≤ v → b * u + a * v = p → u ≤ p ∧ v ≤ p ∧ a / b * v ≤ p := by
    intro u v hu hv e
    have e1 : 1 * u ≤ b * u := Int.mul_le_mul_of_nonneg_right h.b1 hu
    have e2 : 1 * v ≤ a * v := Int.mul_le_mul_of_nonneg_right h.a1 hv
    have e3 : a / b * v ≤ a * v := Int.mul_le_mul_of_nonneg_right hka hv
    have e4 : 0 ≤ b * u := Int.mul_nonneg (by have := h.b1; omega) hu
    have e5 : 0 ≤ a * v := Int.mul_nonneg (by have := h.a1; omega) hv
    omega
  refine ⟨?_, ?_, ?_, hkb0, hkb⟩ <;> rcases h.sz with ⟨s1, s2, s3⟩ | ⟨s1, s2, s3⟩
  · have := key (-x) y (by omega) s1 s3; omega
  · have := key x (-y) s2 (by omega) s3; omega
  · have := key (-x) y (by omega) s1 s3; omega
  · have := key x (-y) s2 (by omega) s3; omega
  · have h1 := key (-x) y (by omega) s1 s3
    have h2 : 0 ≤ a / b * y := Int.mul_nonneg hk0 s1
    omega
  · have h1 := key x (-y) s2 (by omega) s3
    have h2 : 0 ≤ a / b * (-y) := Int.mul_nonneg hk0 (by omega)
    have h3 : a / b * (-y) = -(a / b * y) := Int.mul_neg _ _
    omega
theorem InvSt.step {p q a b x y : Int} (h : InvSt p q a b x y) (hb : 1 < b) : InvSt p q b (a - a / b * b) y (x - a / b * y) := by
  have hk0 : 0 ≤ a / b := Int.ediv_nonneg (by have := h.a1; omega) (by have := h.b1; omega)
  have hr : a - a / b * b = a % b := by have := Int.emod_add_mul_ediv a b; rw [Int.mul_comm] at this; omega
  have hr0 : 0 ≤ a % b := Int.emod_nonneg _ (by omega)
  have hr1 : a % b < b := Int.emod_lt_of_pos _ (by omega)
  have hne : a % b ≠ 0 := by
    intro e
    have hd : b ∣ a := Int.dvd_of_emod_eq_zero e
    have h1 : b.natAbs ∣ Nat.gcd a.natAbs b.natAbs := Nat.dvd_gcd (Int.natAbs_dvd_natAbs.2 hd) (Nat.dvd_refl _)
    rw [h.cop] at h1
    have := Nat.le_of_dvd (by omega) h1
    omega
  have hcop : Nat.gcd b.natAbs (a % b).natAbs = 1 := by
    rw [Int.natAbs_emod_of_nonneg (by have := h.a1; omega), Nat.gcd_comm, ← Nat.gcd_rec, Nat.gcd_comm]
    exact h.cop
  rw [hr]
  refine ⟨by omega, by omega, h.bp, by have := h.bp; omega, hcop, h.mb, ?_, ?_⟩
  · obtain ⟨u, hu⟩ := h.ma
    obtain ⟨v, hv⟩ := h.mb
    refine ⟨u - a / b * v, ?_⟩
    rw [← hr]
    have e1 : (x - a / b * y) * q = x * q - a / b * (y * q) := by rw [Int.sub_mul, Int.mul_assoc]
    have e2 : y * q = b + p * v := by omega
    have e3 : x * q = a + p * u := by omega
    rw [e1, e2, e3, Int.mul_sub, Int.mul_add]
    have e4 : a / b * (p * v) = p * (a / b * v) := by rw [← Int.mul_assoc, Int.mul_comm (a / b) p, Int.mul_assoc]
    omega
  · rw [← hr]
    rcases h.sz with ⟨s1, s2, s3⟩ | ⟨s1, s2, s3⟩
    · right
      have h2 : 0 ≤ a / b * y := Int.mul_nonneg hk0 s1
      refine ⟨by omega, s1, ?_⟩
      generalize a / b = k at *
      rw [← s3]; grind
    · left
      have h2 : 0 ≤ a / b * (-y) := Int.mul_nonneg hk0 (by omega)
      rw [Int.mul_neg] at h2
      refine ⟨by omega, s1, ?_⟩
      generalize a / b = k at *
      rw [← s3]; grind

theorem InvSt.done {p q a x y : Int} (h : InvSt p q a 1 x y) (hp : 1 < p) : ∃ i, i = y % p ∧ 0 < i ∧ i < p ∧ (i * q) % p = 1 := by
  refine ⟨_, rfl, ?_⟩
  have h1 : (y % p * q) % p = 1 := by
    have h0 : (y * q) % p = 1 % p := emod_of_dvd h.mb
    rw [Int.emod_eq_of_lt (show (0 : Int) ≤ 1 by omega) hp] at h0
    rw [Int.mul_emod, Int.emod_emod_of_dvd _ (Int.dvd_refl _), ← Int.mul_emod]
    exact h0
  refine ⟨?_, Int.emod_lt_of_pos _ (by omega), h1⟩
  have h2 := Int.emod_nonneg y (show p ≠ 0 by omega)
  rcases Int.lt_or_eq_of_le h2 with h3 | h3
  · exact h3
  · rw [← h3] at h1; simp at h1
theorem InvSt.start {p q : Int} (hq : 1 ≤ q) (hqp : q ≤ p) (h : Nat.gcd p.natAbs q.natAbs = 1) : InvSt p q p q 0 1 :=
  ⟨by omega, hq, Int.le_refl _, hqp, h, ⟨-1, by omega⟩, ⟨0, by omega⟩, .inl ⟨by omega, by omega, by omega⟩⟩

theorem tsize_calls (n : Int) (w : World) (h1 : -1000000 ≤ n) (h2 : n ≤ 1000000) :
    Calls Try.prog 99 #[.int .i64 n] w fun e w' => e = .returned (.int .i64 (n.natAbs : Nat)) ∧ w = w' := by
  by_cases h : n < -n
  all_goals
    go_enter Try.func99, Try.ntmps99
    go_wp2
    go_ret
    exact ⟨ret_int' (by omega), rfl⟩

end Go.Proofs.Ytpnbkoihglppnaa

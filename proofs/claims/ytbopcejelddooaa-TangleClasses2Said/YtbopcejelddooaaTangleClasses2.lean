/- TangleClasses2: for every input the statement returns true, and nothing that was there has changed. -/
import Derived.Test.YtbopcejelddooaaEquiv
import Derived.Deep.RegionHeld3
namespace Go.Proofs.Ytbopcejelddooaa
open Go.RowKit Go.Sl

theorem qF_of {p m : Int} (hp : 0 < p) (hm0 : 0 ≤ m) (hm : m < p) : qF p m = m := by
  unfold qF
  rw [if_neg (by omega), show ((p.natAbs : Nat) : Int) = p by omega, Int.emod_eq_of_lt hm0 hm]
theorem classOf_of {p m o x : Int} (hp : 1 < p) (hm0 : 0 ≤ m) (hm : m < p) (ho0 : 0 < o) (ho : o < p) (h : (o * m) % p = 1) (hc : ClassOf p m x) : x = min m o := by
  have hpp : ((p.natAbs : Nat) : Int) = p := by omega
  rcases hc with ⟨h1, _⟩ | ⟨_, i, i0, i1, i2, i3⟩
  · omega
  · rw [qF_of (by omega) hm0 hm, hpp] at i2
    rw [qF_of (by omega) hm0 hm] at i3
    rw [i3, inv_unique i2 h (by omega) (by omega) (by omega) ho]
theorem class_inv {n d m p : Int} (hp : p = n.natAbs) (h1 : 1 < p) (h : ClassOf n d m) : ∃ o, 1 ≤ m ∧ m ≤ o ∧ o < p ∧ (o * m) % p = 1 := by
  rcases h with ⟨h2, _⟩ | ⟨_, i, i0, i1, i2, i3⟩
  · omega
  · have hq := qF_range (n := n) (d := d) (by omega)
    rw [← hp] at hq i1 i2
    have hq1 : 1 ≤ qF n d := by
      rcases Int.lt_or_eq_of_le hq.1 with h | h
      · omega
      · rw [← h] at i2; simp at i2
    rcases Int.le_total (qF n d) i with h | h
    · exact ⟨i, by omega, by omega, by omega, by rw [i3, Int.min_eq_left h]; exact i2⟩
    · exact ⟨qF n d, by omega, by omega, by omega, by rw [i3, Int.min_eq_right h, Int.mul_comm]; exact i2⟩
theorem gcd_of_inv {p m o : Int} (h1 : 1 < p) (h : (o * m) % p = 1) : Nat.gcd p.natAbs m.natAbs = 1 := by
  have h2 : ((Nat.gcd p.natAbs m.natAbs : Nat) : Int) ∣ 1 := by
    have a1 : ((Nat.gcd p.natAbs m.natAbs : Nat) : Int) ∣ p := Int.ofNat_dvd_left.2 (Nat.gcd_dvd_left _ _)
    have a2 : ((Nat.gcd p.natAbs m.natAbs : Nat) : Int) ∣ m := Int.ofNat_dvd_left.2 (Nat.gcd_dvd_right _ _)
    rw [← h, Int.emod_def]
    exact Int.dvd_sub (Int.dvd_trans a2 (Int.dvd_mul_left _ _)) (Int.dvd_trans a1 (Int.dvd_mul_right _ _))
  have h3 := Int.le_of_dvd (by omega) h2
  have h4 : 0 < Nat.gcd p.natAbs m.natAbs := Nat.gcd_pos_of_pos_left _ (by omega)
  omega

set_option maxHeartbeats 4000000 in
set_option maxRecDepth 100000 in
theorem tangleClasses2_true (a : Int) (ha : I64 a) (b : Int) (hb : I64 b) (k : Int) (hk : I64 k) (w : World) :
    Calls Try.prog 14 #[.int .i64 a, .int .i64 b, .int .i64 k] w fun e w' => e = .returned (.bool true) ∧ Below w.heap.size w w' := by
  obtain ⟨K0, hK⟩ : ∃ K0 : Nat, k % 5 = (K0 : Int) := ⟨(k % 5).toNat, by omega⟩
  have hK1 : K0 ≤ 4 := by omega
  have HK := Lib.hid hK; clear hK
  have HB : Below w.heap.size w w := Below.refl _ _
  go_enter Try.func14, Try.ntmps14
  go_wp2_with fail
  refine (fraction_calls a b _ ha hb).mono ?_
  rintro e u1 ⟨n, d, rfl, hok, hn, hd1, hd2, hb1⟩
  replace HB := Below.chain HB hb1; clear hb1
  obtain ⟨v1, hv1⟩ : ∃ v1, v1 = u1.alloc (.cells #[.int .i64 n, (.int .i64 d)] 65) := ⟨_, rfl⟩
  have pf : Pair v1 u1.heap.size 65 (.int .i64 n) (.int .i64 d) := by rw [hv1]; exact pair_new _ _ _ _
  have hw1 : Below u1.heap.size u1 v1 := by rw [hv1]; exact (Below.refl _ _).alloc (Nat.le_refl _) _
  replace HB := Below.chain HB hw1; clear hw1
  have HV1 := Lib.hid hv1.symm; clear hv1
  have hok' := hok; clear hok
  have OK := Lib.hid hok'
  clear hok'
  have hnn1 : -999 ≤ n := by omega
  have hnn2 : n ≤ 999 := by omega
  have c0_pf := pf.cell0; have c1_pf := pf.cell1; have l_pf := pf.lt
  go_wp2_with fail
  rw [HV1.out]
  refine (Class_calls n d _ OK.out).mono ?_
  rintro e u2 ⟨m, rfl, hm, hb2⟩
  replace pf := pf.below hb2
  replace HB := Below.chain HB hb2; clear hb2
  have c0_pf := pf.cell0; have c1_pf := pf.cell1; have l_pf := pf.lt
  have HM := Lib.hid hm; clear hm
  go_wp2_with fail
  refine (rational_calls _).mono ?_
  rintro e u3 ⟨rfl, hb3⟩
  replace pf := pf.below hb3
  replace HB := Below.chain HB hb3; clear hb3
  have c0_pf := pf.cell0; have c1_pf := pf.cell1; have l_pf := pf.lt
  obtain ⟨p, hp⟩ : ∃ p : Int, p = n.natAbs := ⟨_, rfl⟩
  have hmax : max n (-n) = p := by omega
  have hp0 : 0 ≤ p := by omega
  have hp9 : p ≤ 999 := by omega
  rw [← hp]
  by_cases hn0 : n = 0
  · have hnz : (n == 0) = true := by simp [hn0]
    have hm0 : m = 0 := by
      rcases HM.out with ⟨_, h⟩ | ⟨h, _⟩
      · exact h
      · omega
    have hmz : (m == 0) = true := by simp [hm0]
    clear hp hn0 hm0
    go_wp2_with fail
    go_ret
    exact ⟨rfl, HB⟩
  · have hnz : (n == 0) = false := by simp [hn0]
    have hp1 : 1 ≤ p := by omega
    obtain ⟨g, hg⟩ : ∃ g : Int, g = d + p * K0 := ⟨_, rfl⟩
    have hg0 : 0 ≤ p * (K0 : Int) := Int.mul_nonneg hp0 (by omega)
    have hg1 : p * (K0 : Int) ≤ 999 * 4 := Int.mul_le_mul hp9 (by omega) (by omega) (by omega)
    have hgm : g % p = d % p := by rw [hg]; simp
    have hqg : qF n d = qF n g := by unfold qF; rw [← hp, hgm]
    have hgok : FracOk n g := by
      refine ⟨by omega, by omega, by omega, by omega, by omega, ?_⟩
      have h1 := OK.out.gcd
      have h2 : Int.gcd n g = Int.gcd n d := by
        rw [hg]
        rcases Int.le_total 0 n with h | h
        · rw [show p = n by omega, Int.mul_comm]; simp
        · rw [show p * (K0 : Int) = n * (-(K0 : Int)) by rw [show p = -n by omega]; rw [Int.neg_mul, Int.mul_neg]]
          simp
      have h3 : Nat.gcd n.natAbs g.natAbs = Nat.gcd n.natAbs d.natAbs := h2
      rw [h3]; exact h1
    have HP := Lib.hid hp; have HG := Lib.hid hg.symm; have GOK := Lib.hid hgok; have HQG := Lib.hid hqg
    clear hp hg hgm hgok hqg hn0
    go_wp2_with fail
    have hw2 : IntKind.i64.wrap (d + p * (K0 : Int)) = g := by have h := HG.out; rw [h]; exact IntWalk.i64_in _ ⟨by omega, by omega⟩
    have hw1 := IntWalk.i64_in (p * (K0 : Int)) ⟨by omega, by omega⟩
    go_region_held3 (fun w' => w'.cell? ⟨u1.heap.size, 0, none⟩ = some (.int .i64 n) ∧ w'.cell? ⟨u1.heap.size, 1, none⟩ = some (.int .i64 d)) (go_keep)
      (first | (go_at_call 16; refine (below_nat k 5 K0 _ (by clear hw1 hw2; omega) (by clear hw1 hw2; omega) hk HK.out).mono ?_; rintro e w' ⟨rfl, rfl⟩))
    all_goals clear hw1 hw2
    all_goals
      obtain ⟨V, hV⟩ : ∃ V, V = (u3.alloc (.cells #[.int .i64 n, .int .i64 g] 65)).drew := ⟨_, rfl⟩
      rw [← hV]
      have hbd : Below u3.heap.size u3 V := by rw [hV]; exact ((Below.refl _ _).alloc (Nat.le_refl _) _).drew
      have pg : Pair V u3.heap.size 65 (.int .i64 n) (.int .i64 g) := by rw [hV]; exact (pair_new _ _ _ _).below ((Below.refl _ _).drew)
      replace pf := pf.below hbd
      replace HB := Below.chain HB hbd; clear hbd hV
      have c0_pf := pf.cell0; have c1_pf := pf.cell1; have l_pf := pf.lt
      have c0_pg := pg.cell0; have c1_pg := pg.cell1; have l_pg := pg.lt
      go_wp2_with fail
      refine (equivalent_yes n d n g _ OK.out GOK.out rfl (fun m m' h h' => classOf_unique HQG.out rfl h h')).mono ?_
      rintro e u6 ⟨rfl, hb6⟩
      replace pf := pf.below hb6
      replace pg := pg.below hb6
      replace HB := Below.chain HB hb6; clear hb6
      have c0_pf := pf.cell0; have c1_pf := pf.cell1; have l_pf := pf.lt
      have c0_pg := pg.cell0; have c1_pg := pg.cell1; have l_pg := pg.lt
      by_cases hp2 : p < 2
      · have hm0 : m = 0 := by
          rcases HM.out with ⟨_, h⟩ | ⟨h, _⟩
          · exact h
          · have := HP.out; omega
        have hmz : (m == 0) = true := by simp [hm0]
        clear hm0
        go_wp2_with fail
        go_ret
        exact ⟨rfl, HB⟩
      · obtain ⟨o, hm1, hmo, hop, hinv⟩ := class_inv HP.out (by omega) HM.out
        have hpp : p.natAbs = n.natAbs := by have := HP.out; omega
        have okm : FracOk p m := ⟨by omega, by omega, by omega, by omega, by omega, gcd_of_inv (by omega) hinv⟩
        have oko : FracOk p o := ⟨by omega, by omega, by omega, by omega, by omega, gcd_of_inv (o := m) (by omega) (by rw [Int.mul_comm]; exact hinv)⟩
        have hinv' : (m * o) % p = 1 := by rw [Int.mul_comm]; exact hinv
        have heq1 : ∀ x y, ClassOf p m x → ClassOf p o y → x = y := fun x y h h' => by
          rw [classOf_of (by omega) (by omega) (by omega) (by omega) hop hinv h, classOf_of (o := m) (by omega) (by omega) hop (by omega) (by omega) hinv' h', Int.min_comm]
        have heq2 : ∀ x y, ClassOf p m x → ClassOf n d y → x = y := fun x y h h' => by
          rw [classOf_of (by omega) (by omega) (by omega) (by omega) hop hinv h, classOf_unique rfl rfl h' HM.out]
          omega
        have OKM := Lib.hid okm; have OKO := Lib.hid oko; have HEQ1 := Lib.hid heq1; have HEQ2 := Lib.hid heq2; have HPA := Lib.hid hpp; have HINV := Lib.hid hinv
        clear okm oko heq1 heq2 hpp hinv hinv'
        have g1 : ¬ m < 1 := by omega
        have g2 : ¬ p ≤ m := by omega
        have hpz : (p == 0) = false := by rw [beq_eq_false_iff_ne]; omega
        go_wp2_with fail
        go_loop [14] (fun i => ∃ x : Int, 1 ≤ x ∧ x ≤ o ∧ i = .int .i64 x) (fun i => (o - intOf i).toNat)
        case atStart => exact ⟨1, by omega, by omega, rfl⟩
        case round =>
          obtain ⟨x, hx1, hxo, rfl⟩ := hrel
          have hxm0 : 0 ≤ x * m := Int.mul_nonneg (by omega) (by omega)
          have hxm1 : x * m ≤ 999 * 999 := Int.mul_le_mul (by omega) (by omega) (by omega) (by omega)
          have hxp : x < p := by omega
          by_cases hxe : x = o
          · have ht : (x * m % p == 1) = true := by rw [hxe, HINV.out]; rfl
            have hle : m ≤ x := by omega
            subst hxe
            clear hxo
            go_wp2_with fail
            refine (equivalent_yes p m p x _ OKM.out OKO.out rfl HEQ1.out).mono ?_
            rintro e u7 ⟨rfl, hb7⟩
            replace pf := pf.below hb7
            replace pg := pg.below hb7
            replace HB := Below.chain HB hb7; clear hb7
            have c0_pf := pf.cell0; have c1_pf := pf.cell1; have l_pf := pf.lt
            have c0_pg := pg.cell0; have c1_pg := pg.cell1; have l_pg := pg.lt
            go_wp2_with fail
            refine (equivalent_yes p m n d _ OKM.out OK.out HPA.out HEQ2.out).mono ?_
            rintro e u8 ⟨rfl, hb8⟩
            replace pf := pf.below hb8
            replace pg := pg.below hb8
            replace HB := Below.chain HB hb8; clear hb8
            have c0_pf := pf.cell0; have c1_pf := pf.cell1; have l_pf := pf.lt
            have c0_pg := pg.cell0; have c1_pg := pg.cell1; have l_pg := pg.lt
            go_wp2_with fail
            go_ret
            exact ⟨rfl, HB⟩
          · have ht : (x * m % p == 1) = false := by
              rw [beq_eq_false_iff_ne]
              exact fun e => hxe (inv_unique e HINV.out (by omega) (by omega) (by omega) hop)
            have hlt : x < o := by omega
            clear hxe
            go_wp2_with fail
            go_round
            case rel => exact ⟨x + 1, by omega, by omega, rfl⟩
            case measure => simp [intOf]; omega

end Go.Proofs.Ytbopcejelddooaa

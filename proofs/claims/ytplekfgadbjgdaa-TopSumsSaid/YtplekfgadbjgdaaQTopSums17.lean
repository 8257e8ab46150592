/- Determinants of minors: intmatrix.minor, Check, columns and Det, walked. -/
import Derived.Test.YtplekfgadbjgdaaQTopSums0
import Derived.Test.YtplekfgadbjgdaaQTopSums1
import Derived.Test.YtplekfgadbjgdaaQTopSums3
import Derived.Test.YtplekfgadbjgdaaQTopSums8
import Derived.Test.YtplekfgadbjgdaaQTopSums10
import Derived.Deep.RegionLaw
namespace Go.Proofs.Ytplekfgadbjgdaa
open Go.RowKit Go.Sl

/-- Matrices that Check lets pass. -/
structure IsMat (xss : List (List Int)) (n c : Nat) : Prop where
  rows : xss.length = n
  cols : ∀ i, i < n → (nthr xss i).length = c
  ent : ∀ i, i < n → ∀ j, j < c → -100 ≤ nth (nthr xss i) j ∧ nth (nthr xss i) j ≤ 100
  hn : n ≤ 6
  hc : c ≤ 6

theorem columns_calls (v : Value) (xss : List (List Int)) (n c : Nat) (w : World) (hv : Rows2 w v xss) (hm : IsMat xss n c) (hn : 0 < n) :
    Calls Try.prog 150 #[v] w fun e w' => e = .returned (.int .i64 c) ∧ w = w' := by
  obtain ⟨vs, hv⟩ := hv
  have sv := hv.isSl
  have lv := hv.len
  rw [hm.rows] at lv
  have c0 := hv.cell (i := 0) (by rw [hm.rows]; exact hn)
  have r0 := hv.row (i := 0) (by rw [hm.rows]; exact hn)
  have s0 := r0.isSl
  have l0 := r0.len
  rw [hm.cols 0 hn] at l0
  have h0 : ((n : Int) == 0) = false := by rw [beq_eq_false_iff_ne]; omega
  have HM := Lib.hid hm; clear hm
  clear hv
  go_enter Try.func150, Try.ntmps150
  go_wp2_with fail
  go_ret
  exact ⟨rfl, rfl⟩

set_option maxRecDepth 100000 in
theorem mcheck_calls (v : Value) (xss : List (List Int)) (n c : Nat) (w : World) (hv : Rows2 w v xss) (hm : IsMat xss n c) :
    Calls Try.prog 147 #[v] w fun e w' => e = .returned (.int .i64 0) ∧ w = w' := by
  obtain ⟨vs, hv⟩ := hv
  have sv := hv.isSl
  have lv := hv.len
  rw [hm.rows] at lv
  have hn6 := hm.hn
  have hc6 := hm.hc
  have HV := Lib.hid hv; clear hv
  have HM := Lib.hid hm; clear hm
  go_enter Try.func147, Try.ntmps147
  go_wp2_with fail
  go_loop [12] (fun i => ∃ k : Nat, k ≤ n ∧ i = .int .i64 k) (fun i => n - (intOf i).toNat)
  case atStart => exact ⟨0, Nat.zero_le _, rfl⟩
  case round =>
    obtain ⟨k, hk, rfl⟩ := hrel
    by_cases hlt : k < n
    · have c1 := HV.out.cell (i := k) (by rw [HM.out.rows]; exact hlt)
      have c0 := HV.out.cell (i := 0) (by rw [HM.out.rows]; omega)
      have r1 := HV.out.row (i := k) (by rw [HM.out.rows]; exact hlt)
      have r0 := HV.out.row (i := 0) (by rw [HM.out.rows]; omega)
      have s0 := r0.isSl
      have s1 := r1.isSl
      have l0 := r0.len
      have l1 := r1.len
      rw [HM.out.cols 0 (by omega)] at l0
      rw [HM.out.cols k hlt] at l1
      have HR1 := Lib.hid r1; clear r0 r1
      have hne : ((c : Int) != (c : Int)) = false := by simp
      go_wp2_with fail
      go_loop [28] (fun i => ∃ q : Nat, q ≤ c ∧ i = .int .i64 q) (fun i => c - (intOf i).toNat)
      case atStart => exact ⟨0, Nat.zero_le _, rfl⟩
      case round =>
        obtain ⟨q, hq, rfl⟩ := hrel
        by_cases hqc : q < c
        · have c2 := HR1.out.cell (k := q) (by rw [HM.out.cols k hlt]; exact hqc)
          have he := HM.out.ent k hlt q hqc
          have he1 := he.1
          have he2 := he.2
          clear he
          go_wp2_with fail
          go_round
          case rel => exact ⟨q + 1, by omega, by go_num⟩
          case measure => simp [intOf]; omega
        · go_wp2_with fail
          go_round
          case rel => exact ⟨k + 1, by omega, by go_num⟩
          case measure => simp [intOf]; omega
    · go_wp2_with fail
      go_ret
      exact ⟨rfl, rfl⟩

/-! ### Bits of masks below 64 -/
def low : Nat → Nat → Nat
  | 0, _ => 0
  | f + 1, r => if r % 2 = 1 then 0 else low f (r / 2) + 1
def popc : Nat → Nat → Nat
  | 0, _ => 0
  | f + 1, r => r % 2 + popc f (r / 2)
def hasBit (m c : Nat) : Bool := m / 2 ^ c % 2 == 1
theorem low_facts : ∀ rows : Fin 64, rows.val ≠ 0 → low 6 rows.val < 6 ∧ hasBit rows.val (low 6 rows.val) = true ∧ popc 6 (rows.val - 2 ^ low 6 rows.val) + 1 = popc 6 rows.val := by decide +kernel
theorem low_bits : ∀ rows : Fin 64, rows.val ≠ 0 → ∀ r : Fin 6, r.val < low 6 rows.val → hasBit rows.val r.val = false := by decide +kernel
theorem and_one : ∀ m : Fin 64, ∀ c : Fin 6, bits .and .i64 ((m.val : Int) / 2 ^ c.val) 1 = if hasBit m.val c.val then 1 else 0 := by decide +kernel
theorem and_not : ∀ m : Fin 64, ∀ c : Fin 6, hasBit m.val c.val = true → bits .andNot .i64 (m.val : Int) (2 ^ c.val) = ((m.val - 2 ^ c.val : Nat) : Int) := by decide +kernel
theorem shl_one : ∀ c : Fin 7, IntKind.i64.wrap (2 ^ c.val) = ((2 ^ c.val : Nat) : Int) := by decide +kernel

/-! ### The determinant of a minor -/
def ent2 (m : List (List Int)) (r c : Nat) : Int := nth (nthr m r) c
/-- The sign of a column: how many columns of the mask are before it. -/
def sgn (cols : Nat) : Nat → Int
  | 0 => 1
  | c + 1 => if hasBit cols c then -sgn cols c else sgn cols c
def outTo (e sub : Nat → Int) (cols : Nat) : Nat → Int
  | 0 => 0
  | c + 1 => outTo e sub cols c + if hasBit cols c then sgn cols c * e c * sub c else 0
def minM (m : List (List Int)) (C : Nat) : Nat → Nat → Nat → Int
  | 0, _, _ => 1
  | f + 1, rows, cols => outTo (ent2 m (low 6 rows)) (fun c => minM m C f (rows - 2 ^ low 6 rows) (cols - 2 ^ c)) cols C

theorem sgn_abs (cols c : Nat) : (sgn cols c).natAbs = 1 := by
  induction c with
  | zero => rfl
  | succ c ih => rw [sgn]; split <;> simp [ih]
theorem term_abs {s e x : Int} {B : Nat} (hs : s.natAbs = 1) (he : e.natAbs ≤ 100) (hx : x.natAbs ≤ B) : (s * e * x).natAbs ≤ 100 * B := by
  rw [Int.natAbs_mul, Int.natAbs_mul, hs, Nat.one_mul]
  exact Nat.mul_le_mul he hx
theorem outTo_abs {e sub : Nat → Int} {cols B : Nat} (he : ∀ c, (e c).natAbs ≤ 100) (hs : ∀ c, (sub c).natAbs ≤ B) (c : Nat) : (outTo e sub cols c).natAbs ≤ c * (100 * B) := by
  induction c with
  | zero => simp [outTo]
  | succ c ih =>
    rw [outTo, Nat.succ_mul]
    have ht := term_abs (sgn_abs cols c) (he c) (hs c)
    split <;> omega
theorem minM_abs {m : List (List Int)} {C : Nat} (hE : ∀ r c, (ent2 m r c).natAbs ≤ 100) (hC : C ≤ 6) (f : Nat) : ∀ rows cols, (minM m C f rows cols).natAbs ≤ 600 ^ f := by
  induction f with
  | zero => intro rows cols; simp [minM]
  | succ f ih =>
    intro rows cols
    rw [minM]
    have h := outTo_abs (e := ent2 m (low 6 rows)) (sub := fun c => minM m C f (rows - 2 ^ low 6 rows) (cols - 2 ^ c)) (cols := cols) (fun c => hE _ c) (fun c => ih _ _) C
    have h2 : C * (100 * 600 ^ f) ≤ 6 * (100 * 600 ^ f) := Nat.mul_le_mul_right _ hC
    rw [Nat.pow_succ]
    omega
theorem pow600 {f : Nat} (h : f ≤ 5) : 600 ^ f ≤ 77760000000000 := by
  have : 600 ^ f ≤ 600 ^ 5 := Nat.pow_le_pow_right (by omega) h
  omega
theorem IsMat.abs {m : List (List Int)} {n c : Nat} (h : IsMat m n c) : ∀ i j, (ent2 m i j).natAbs ≤ 100 := by
  intro i j
  unfold ent2
  by_cases hi : i < n
  · by_cases hj : j < c
    · have := h.ent i hi j hj; omega
    · have : nth (nthr m i) j = 0 := by unfold nth; rw [List.getD_eq_getElem?_getD, List.getElem?_eq_none (by rw [h.cols i hi]; omega)]; rfl
      rw [this]; decide
  · have h1 : nthr m i = [] := by unfold nthr; rw [List.getD_eq_getElem?_getD, List.getElem?_eq_none (by rw [h.rows]; omega)]; rfl
    rw [h1]; simp [nth]
theorem low_lt {rows n : Nat} (h64 : rows < 64) (h0 : rows ≠ 0) (hn : rows < 2 ^ n) : low 6 rows < n := by
  have h := low_facts ⟨rows, h64⟩ h0
  have hb : hasBit rows (low 6 rows) = true := h.2.1
  rcases Nat.lt_or_ge (low 6 rows) n with hl | hl
  · exact hl
  · exfalso
    have h2 : 2 ^ n ≤ 2 ^ low 6 rows := Nat.pow_le_pow_right (by omega) hl
    unfold hasBit at hb
    rw [Nat.div_eq_of_lt (by omega)] at hb
    simp at hb
theorem popc_zero : ∀ rows : Fin 64, popc 6 rows.val = 0 → rows.val = 0 := by decide +kernel
theorem popc_le : ∀ rows : Fin 64, popc 6 rows.val ≤ 6 := by decide +kernel

set_option maxRecDepth 100000 in
set_option maxHeartbeats 1000000 in
theorem minor_calls (v : Value) (xss : List (List Int)) (n C : Nat) (hm : IsMat xss n C) (f : Nat) : ∀ (rows cols : Nat) (w : World), Rows2 w v xss → rows < 64 → cols < 64 → rows < 2 ^ n → popc 6 rows = f →
    Calls Try.prog 162 #[v, .int .i64 rows, .int .i64 cols] w fun e w' => e = .returned (.int .i64 (minM xss C f rows cols)) ∧ ∃ q, w' = w.drewN q := by
  induction f with
  | zero =>
    intro rows cols w hv hr hc hn hp
    have h0 : rows = 0 := popc_zero ⟨rows, hr⟩ hp
    subst h0
    go_enter Try.func162, Try.ntmps162
    go_wp2_with fail
    go_ret
    exact ⟨rfl, 0, rfl⟩
  | succ f ih =>
    intro rows cols w hv hr hc hn hp
    have hne : rows ≠ 0 := by intro h; rw [h] at hp; revert hp; simp [popc]
    have hlf := low_facts ⟨rows, hr⟩ hne
    have hl6 : low 6 rows < 6 := hlf.1
    have hln : low 6 rows < n := low_lt hr hne hn
    have hbit : hasBit rows (low 6 rows) = true := hlf.2.1
    have hpop : popc 6 (rows - 2 ^ low 6 rows) = f := by have h : popc 6 (rows - 2 ^ low 6 rows) + 1 = popc 6 rows := hlf.2.2; omega
    have hlow : ∀ r, r < low 6 rows → hasBit rows r = false := fun r h => low_bits ⟨rows, hr⟩ hne ⟨r, by omega⟩ h
    have hne' : ((rows : Int) == 0) = false := by rw [beq_eq_false_iff_ne]; omega
    have hf5 : f ≤ 5 := by have h : popc 6 rows ≤ 6 := popc_le ⟨rows, hr⟩; omega
    have HP := Lib.hid hpop; have HLW := Lib.hid hlow; have HBIT := Lib.hid hbit
    clear hpop hlow hbit hlf hp
    have HIH := Lib.hid ih; clear ih
    have hC := hm.hc
    have HM := Lib.hid hm
    obtain ⟨L, hL⟩ : ∃ L, low 6 rows = L := ⟨_, rfl⟩
    rw [hL] at hl6 hln HP HLW HBIT
    have HL := Lib.hid hL; clear hL
    have hcol := columns_calls v xss n C w hv hm (by omega)
    obtain ⟨vs, hv⟩ := hv
    have sv := hv.isSl
    have lv := hv.len
    rw [hm.rows] at lv
    have HV := Lib.hid hv; clear hv
    have HCOL := Lib.hid hcol; clear hcol hm
    go_enter Try.func162, Try.ntmps162
    go_wp2_with fail
    go_loop [7] (fun r => ∃ k : Nat, k ≤ L ∧ r = .int .i64 k) (fun r => L - (intOf r).toNat)
    case atStart => exact ⟨0, Nat.zero_le _, rfl⟩
    case round =>
      obtain ⟨k, hk, rfl⟩ := hrel
      by_cases hkl : k < L
      · have h1 := and_one ⟨rows, hr⟩ ⟨k, by omega⟩
        have h2 := HLW.out k hkl
        simp only [h2] at h1
        go_wp2_with fail
        go_round
        case rel => exact ⟨k + 1, by omega, by go_num⟩
        case measure => simp [intOf]; omega
      · obtain rfl : k = L := by omega
        have h1 := and_one ⟨rows, hr⟩ ⟨k, by omega⟩
        have h2 := HBIT.out
        simp only [h2, if_true] at h1
        clear h2
        go_wp2_with (go_at_call 150; refine HCOL.out.mono ?_; rintro e w' ⟨rfl, rfl⟩)
        clear h1
        have hE := HM.out.abs
        have HE := Lib.hid hE; clear hE
        have hminM : minM xss C (f + 1) rows cols = outTo (ent2 xss k) (fun c => minM xss C f (rows - 2 ^ k) (cols - 2 ^ c)) cols C := by rw [minM, HL.out]
        have HMM := Lib.hid hminM; clear hminM
        obtain ⟨SUB, hSUB⟩ : ∃ SUB, SUB = (fun c => minM xss C f (rows - 2 ^ k) (cols - 2 ^ c)) := ⟨_, rfl⟩
        have hsubabs : ∀ c, (SUB c).natAbs ≤ 600 ^ f := by intro c; rw [hSUB]; exact minM_abs HE.out hC f _ _
        have HSA := Lib.hid hsubabs; clear hsubabs
        have HSUB := Lib.hid hSUB; clear hSUB
        have hp5 := pow600 hf5
        clear hne'
        go_loopw [8, 9, 22] (fun o s i wr => ∃ c : Nat, c ≤ C ∧ i = .int .i64 c ∧ o = .int .i64 (outTo (ent2 xss k) SUB cols c) ∧ s = .int .i64 (sgn cols c) ∧ ∃ q, wr = w.drewN q) (fun _ _ i _ => C - (intOf i).toNat)
        case atStart => exact ⟨0, Nat.zero_le _, rfl, rfl, rfl, 0, rfl⟩
        case round =>
          obtain ⟨c, hcC, rfl, rfl, rfl, q, hwr⟩ := hrel
          have HWR := Lib.hid hwr; clear hwr
          have hbw : Below w.heap.size w wr := by rw [HWR.out]; exact Below.drawn q
          have HBW := Lib.hid hbw; clear hbw
          by_cases hlt : c < C
          · have h1 := and_one ⟨cols, hc⟩ ⟨c, by omega⟩
            have hs := sgn_abs cols c
            have hs1 : -1 ≤ sgn cols c := by omega
            have hs2 : sgn cols c ≤ 1 := by omega
            have ho := outTo_abs (e := ent2 xss k) (sub := SUB) (cols := cols) (fun c => HE.out k c) (fun c => HSA.out c) c
            have ho2 : c * (100 * 600 ^ f) ≤ 6 * (100 * 600 ^ f) := Nat.mul_le_mul_right _ (by omega)
            by_cases hb : hasBit cols c = true
            · simp only [hb, if_true] at h1
              have hout : outTo (ent2 xss k) SUB cols (c + 1) = outTo (ent2 xss k) SUB cols c + sgn cols c * ent2 xss k c * SUB c := by rw [outTo, if_pos hb]
              have hsg : sgn cols (c + 1) = -sgn cols c := by rw [sgn, if_pos hb]
              have HOUT := Lib.hid hout; clear hout
              have HSG := Lib.hid hsg; clear hsg
              have hV := HV.out.below HBW.out
              have cr := hV.cell (i := k) (by rw [HM.out.rows]; exact hln)
              have rr := hV.row (i := k) (by rw [HM.out.rows]; exact hln)
              have srr := rr.isSl
              have lrr := rr.len
              rw [HM.out.cols k hln] at lrr
              have ce := rr.cell (k := c) (by rw [HM.out.cols k hln]; exact hlt)
              have he : nth (nthr xss k) c = ent2 xss k c := rfl
              rw [he] at ce
              have HVV := Lib.hid hV
              clear rr hV he
              by_cases hz : ent2 xss k c = 0
              · have hz' : (ent2 xss k c != 0) = false := by simp [hz]
                have HZ := Lib.hid hz; clear hz
                go_wp2_with fail
                go_roundw
                case rel => exact ⟨c + 1, by omega, by go_num, by rw [HOUT.out, HZ.out]; simp, by rw [HSG.out], q, HWR.out⟩
                case measure => simp [intOf]; omega
              · have hz' : (ent2 xss k c != 0) = true := by simp [hz]
                clear hz
                have hcall : ∀ nq, Calls Try.prog 162 #[v, .int .i64 ((rows - 2 ^ k : Nat) : Int), .int .i64 ((cols - 2 ^ c : Nat) : Int)] (wr.drewN nq) fun e w'' => e = .returned (.int .i64 (SUB c)) ∧ ∃ m, w'' = wr.drewN m := by
                  intro nq
                  refine Calls.quiet_of ?_
                  have := HIH.out (rows - 2 ^ k) (cols - 2 ^ c) (wr.drewN nq) ⟨_, HVV.out.below (Below.drawn nq)⟩ (Nat.lt_of_le_of_lt (Nat.sub_le _ _) hr) (Nat.lt_of_le_of_lt (Nat.sub_le _ _) hc) (Nat.lt_of_le_of_lt (Nat.sub_le _ _) hn) HP.out
                  rw [HSUB.out]
                  exact this
                have HCALL := Lib.hid hcall; clear hcall
                have hea := HE.out k c
                have hse : (sgn cols c * ent2 xss k c).natAbs ≤ 100 := by rw [Int.natAbs_mul, hs, Nat.one_mul]; exact hea
                have hsx := HSA.out c
                have htx := term_abs hs hea hsx
                have w1 : IntKind.i64.wrap (sgn cols c * ent2 xss k c) = sgn cols c * ent2 xss k c := IntWalk.i64_in _ (by omega)
                have w2 : IntKind.i64.wrap ((2 : Int) ^ k) = (2 : Int) ^ k := by have := shl_one ⟨k, by omega⟩; simpa using this
                have w3 : IntKind.i64.wrap ((2 : Int) ^ c) = (2 : Int) ^ c := by have := shl_one ⟨c, by omega⟩; simpa using this
                have w4 : bits .andNot .i64 (rows : Int) ((2 : Int) ^ k) = ((rows - 2 ^ k : Nat) : Int) := by have := and_not ⟨rows, hr⟩ ⟨k, by omega⟩ HBIT.out; simpa using this
                have w5 : bits .andNot .i64 (cols : Int) ((2 : Int) ^ c) = ((cols - 2 ^ c : Nat) : Int) := by have := and_not ⟨cols, hc⟩ ⟨c, by omega⟩ hb; simpa using this
                have w6 : IntKind.i64.wrap (sgn cols c * ent2 xss k c * SUB c) = sgn cols c * ent2 xss k c * SUB c := IntWalk.i64_in _ (by omega)
                have w7 : IntKind.i64.wrap (outTo (ent2 xss k) SUB cols c + sgn cols c * ent2 xss k c * SUB c) = outTo (ent2 xss k) SUB cols c + sgn cols c * ent2 xss k c * SUB c := IntWalk.i64_in _ (by omega)
                clear hea hse hsx htx hs ho ho2
                go_wp2_with fail
                go_quiet ((go_at_call 162; exact HCALL.out _))
                go_wp2_with fail
                go_roundw
                case rel => exact ⟨c + 1, by omega, by go_num, by rw [HOUT.out], by rw [HSG.out], _, by rw [HWR.out, World.drewN_drewN]⟩
                case measure => simp [intOf]; omega
            · have hb' : hasBit cols c = false := by simpa using hb
              simp only [hb'] at h1
              have hout : outTo (ent2 xss k) SUB cols (c + 1) = outTo (ent2 xss k) SUB cols c := by rw [outTo, if_neg hb]; simp
              have hsg : sgn cols (c + 1) = sgn cols c := by rw [sgn, if_neg hb]
              have HOUT := Lib.hid hout; clear hout
              have HSG := Lib.hid hsg; clear hsg
              clear hb hb' hs ho ho2
              go_wp2_with fail
              go_roundw
              case rel => exact ⟨c + 1, by omega, by go_num, by rw [HOUT.out], by rw [HSG.out], q, HWR.out⟩
              case measure => simp [intOf]; omega
          · obtain rfl : c = C := by omega
            go_wp2_with fail
            go_ret
            exact ⟨by rw [HMM.out, ← HSUB.out]; rfl, q, HWR.out⟩

/-! ### Det -/
end Go.Proofs.Ytplekfgadbjgdaa


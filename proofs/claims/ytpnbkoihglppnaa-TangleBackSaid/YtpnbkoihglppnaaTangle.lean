/- Fractions: tangle's gcd, Check, inverse, plus, turn, Apply, walked. -/
import Derived.Test.YtpnbkoihglppnaaNumbers
import Derived.Test.YtpnbkoihglppnaaPair
namespace Go.Proofs.Ytpnbkoihglppnaa
open Go.RowKit Go.Sl

theorem tgcd_calls (a b : Int) (w : World) (ha : a.natAbs ≤ 1000000000000000000) (hb : b.natAbs ≤ 1000000000000000000) :
    Calls Try.prog 135 #[.int .i64 a, .int .i64 b] w fun e w' => e = .returned (.int .i64 (Nat.gcd a.natAbs b.natAbs : Nat)) ∧ ∃ n, w' = w.drewN n := by
  obtain ⟨G, hG⟩ : ∃ G, G = Nat.gcd a.natAbs b.natAbs := ⟨_, rfl⟩
  have HG := Lib.hid hG; clear hG
  go_enter Try.func135, Try.ntmps135
  go_wp2_with fail
  go_loopw [0, 1] (fun x y wr => ∃ p q : Int, x = .int .i64 p ∧ y = .int .i64 q ∧ p.natAbs ≤ 1000000000000000000 ∧ q.natAbs ≤ 1000000000000000000 ∧ Nat.gcd p.natAbs q.natAbs = G ∧ ∃ n, wr = w.drewN n) (fun _ y _ => (intOf y).natAbs)
  case atStart => exact ⟨a, b, rfl, rfl, ha, hb, HG.out.symm, 0, rfl⟩
  case round =>
    obtain ⟨p, q, rfl, rfl, hp, hq, hg, n, hwr⟩ := hrel
    have HWR := Lib.hid hwr; clear hwr
    have HGG := Lib.hid hg; clear hg ha hb
    by_cases hz : q = 0
    · subst hz
      have hne : ((0 : Int) != 0) = false := rfl
      have hga : G = p.natAbs := by rw [← HGG.out]; simp
      have HGA := Lib.hid hga; clear hga
      by_cases hs : -p > p
      · go_wp2_with fail
        go_ret
        exact ⟨ret_int' (by have := HGA.out; have := HG.out; omega), n, HWR.out⟩
      · go_wp2_with fail
        go_ret
        exact ⟨ret_int' (by have := HGA.out; have := HG.out; omega), n, HWR.out⟩
    · have hne : (q != 0) = true := by simp [hz]
      have hab : (p.tmod q).natAbs = p.natAbs % q.natAbs := Int.natAbs_tmod p q
      have hlt : p.natAbs % q.natAbs < q.natAbs := Nat.mod_lt _ (by omega)
      have hb1 : -1000000000000000000 ≤ p.tmod q := by omega
      have hb2 : p.tmod q ≤ 1000000000000000000 := by omega
      have hnext : Nat.gcd q.natAbs (p.tmod q).natAbs = G := by
        rw [hab, ← HGG.out, Nat.gcd_comm p.natAbs, Nat.gcd_rec q.natAbs p.natAbs, Nat.gcd_comm]
      have hq0 : (q == 0) = false := by simp [hz]
      have HN := Lib.hid hnext; clear hnext
      have HAB := Lib.hid hab; clear hab
      have HLT := Lib.hid hlt; clear hlt
      go_wp2_with fail
      go_quiet (fail)
      go_wp2_with fail
      go_roundw
      case rel => exact ⟨q, p.tmod q, rfl, rfl, hq, by omega, HN.out, _, by rw [HWR.out, World.drewN_drewN]⟩
      case measure => have := HAB.out; have := HLT.out; simp [intOf]; omega

/-- A fraction as Check wants it. -/
structure FracOk (n d : Int) : Prop where
  d0 : 0 ≤ d
  d1 : d ≤ 1000000
  n0 : -1000000 ≤ n
  n1 : n ≤ 1000000
  inf : d = 0 → n = 1
  gcd : Nat.gcd n.natAbs d.natAbs = 1
def frac (n d : Int) : Value := .agg #[.int .i64 n, .int .i64 d]

theorem tlarge_calls (n : Int) (w : World) (h1 : ¬ n < -1000000) (h2 : ¬ 1000000 < n) :
    Calls Try.prog 134 #[.int .i64 n] w fun e w' => e = .returned (.bool false) ∧ w = w' := by
  have e1 : decide (n < -1000000) = false := decide_eq_false h1
  have e2 : decide (1000000 < n) = false := decide_eq_false h2
  go_enter Try.func134, Try.ntmps134
  go_wp2
  go_ret
  exact ⟨rfl, rfl⟩

theorem tcheck_calls (n d : Int) (w : World) (h : FracOk n d) :
    Calls Try.prog 94 #[.agg #[.int .i64 n, .int .i64 d]] w fun e w' => e = .returned (.int .i64 0) ∧ Below w.heap.size w w' := by
  obtain ⟨h1, h2, h3, h4, h5, h6⟩ := h
  have HG := Lib.hid h6; clear h6
  have a1 : ¬ n < -1000000 := by omega
  have a2 : ¬ 1000000 < n := by omega
  have a3 : ¬ d < -1000000 := by omega
  have a4 : ¬ 1000000 < d := by omega
  have a5 : ¬ d < 0 := by omega
  by_cases hd : d = 0
  · have hn := h5 hd
    subst hd hn
    clear h5
    go_enter Try.func94, Try.ntmps94
    go_wp2_with (first | (go_at_call 134; refine (tlarge_calls _ _ (by omega) (by omega)).mono ?_; rintro e w' ⟨rfl, rfl⟩) | (go_at_call 135; refine (tgcd_calls 1 0 _ (by decide) (by decide)).mono ?_; rintro e w' ⟨rfl, q, rfl⟩))
    go_ret
    exact ⟨rfl, Below.chain ((Below.refl _ _).alloc (Nat.le_refl _) _) (Below.drawn _)⟩
  · have hd1 : (d == 0) = false := by simp [hd]
    clear h5
    have hgg : ((Nat.gcd n.natAbs d.natAbs : Nat) : Int) = 1 := by rw [HG.out]; rfl
    have HGG := Lib.hid hgg; clear hgg hd
    go_enter Try.func94, Try.ntmps94
    go_wp2_with (first | (go_at_call 134; refine (tlarge_calls _ _ (by omega) (by omega)).mono ?_; rintro e w' ⟨rfl, rfl⟩) | (go_at_call 135; refine (tgcd_calls n d _ (by omega) (by omega)).mono ?_; rintro e w' ⟨rfl, q, rfl⟩; rw [HGG.out]))
    go_ret
    exact ⟨rfl, Below.chain ((Below.refl _ _).alloc (Nat.le_refl _) _) (Below.drawn _)⟩

def invF (n d : Int) : Int × Int := if n < 0 then (-d, -n) else if n = 0 then (1, 0) else (d, n)
def turnF (n d : Int) : Int × Int := if n < 0 then (d, -n) else if n = 0 then (1, 0) else (-d, n)

theorem tplus_calls (n d k : Int) (w : World) (hn : n.natAbs ≤ 1000000000) (hd : d.natAbs ≤ 1000000) (hk : k.natAbs ≤ 1000000000) :
    Calls Try.prog 96 #[.agg #[.int .i64 n, .int .i64 d], .int .i64 k] w fun e w' => e = .returned (.agg #[.int .i64 (n + k * d), .int .i64 d]) ∧ Below w.heap.size w w' := by
  have hm : (k * d).natAbs ≤ 1000000000000000 := by
    rw [Int.natAbs_mul]
    have := Nat.mul_le_mul hk hd
    omega
  have h1 : -1000000000000000 ≤ k * d := by omega
  have h2 : k * d ≤ 1000000000000000 := by omega
  clear hm
  go_enter Try.func96, Try.ntmps96
  go_wp2
  exact bodyPost_ret (v := .agg #[.int .i64 (n + k * d), .int .i64 d]) (by simp [results, Try.results96, go_sem]) rfl ⟨rfl, ((Below.refl _ _).alloc (Nat.le_refl _) _).alloc (by simp) _⟩

theorem tinverse_calls (n d : Int) (w : World) (hn : n.natAbs ≤ 1000000) (hd : d.natAbs ≤ 1000000) :
    Calls Try.prog 102 #[.agg #[.int .i64 n, .int .i64 d]] w fun e w' => e = .returned (.agg #[.int .i64 (invF n d).1, .int .i64 (invF n d).2]) ∧ Below w.heap.size w w' := by
  rcases Int.lt_trichotomy n 0 with h | h | h
  · have e : invF n d = (-d, -n) := by unfold invF; rw [if_pos h]
    rw [e]; clear e
    go_enter Try.func102, Try.ntmps102
    go_wp2
    exact bodyPost_ret (v := .agg #[.int .i64 (-d), .int .i64 (-n)]) (by simp [results, Try.results102, go_sem]) rfl ⟨rfl, ((Below.refl _ _).alloc (Nat.le_refl _) _).alloc (by simp) _⟩
  · subst h
    have e : invF 0 d = (1, 0) := rfl
    rw [e]; clear e
    go_enter Try.func102, Try.ntmps102
    go_wp2
    exact bodyPost_ret (v := .agg #[.int .i64 1, .int .i64 0]) (by simp [results, Try.results102, go_sem]) rfl ⟨rfl, ((Below.refl _ _).alloc (Nat.le_refl _) _).alloc (by simp) _⟩
  · have e : invF n d = (d, n) := by unfold invF; rw [if_neg (by omega), if_neg (by omega)]
    rw [e]; clear e
    have h0 : (n == 0) = false := by rw [beq_eq_false_iff_ne]; omega
    have h1 : ¬ n < 0 := by omega
    go_enter Try.func102, Try.ntmps102
    go_wp2
    exact bodyPost_ret (v := .agg #[.int .i64 d, .int .i64 n]) (by simp [results, Try.results102, go_sem]) rfl ⟨rfl, ((Below.refl _ _).alloc (Nat.le_refl _) _).alloc (by simp) _⟩

theorem tturn_calls (n d : Int) (w : World) (hn : n.natAbs ≤ 1000000) (hd : d.natAbs ≤ 1000000) (hd0 : 0 ≤ d) :
    Calls Try.prog 97 #[.agg #[.int .i64 n, .int .i64 d]] w fun e w' => e = .returned (.agg #[.int .i64 (turnF n d).1, .int .i64 (turnF n d).2]) ∧ Below w.heap.size w w' := by
  obtain ⟨p, q, hpq⟩ : ∃ p q, invF n d = (p, q) := ⟨_, _, rfl⟩
  have hi := tinverse_calls n d ((w.alloc (.cells #[.int .i64 n, .int .i64 d] 68)).alloc (.cells #[.int .i64 0, .int .i64 0] 68)) hn hd
  rw [hpq] at hi
  have hb : p.natAbs ≤ 1000000 ∧ q.natAbs ≤ 1000000 := by
    unfold invF at hpq
    split at hpq
    · cases hpq; omega
    · split at hpq
      · cases hpq; decide
      · cases hpq; omega
  obtain ⟨hp, hq⟩ := hb
  have hf : turnF n d = if 0 < q then (-p, q) else (p, q) := by
    unfold invF at hpq; unfold turnF
    split at hpq
    · rename_i h; cases hpq; rw [if_pos h, if_pos (by omega)]; simp
    · rename_i h; rw [if_neg h]
      split at hpq
      · rename_i h2; cases hpq; rw [if_pos h2]; rfl
      · rename_i h2; cases hpq; rw [if_neg h2, if_pos (by omega)]
  have HF := Lib.hid hf; clear hf hpq
  have HI := Lib.hid hi; clear hi
  by_cases hq0 : 0 < q
  · have hfin : turnF n d = (-p, q) := by rw [HF.out, if_pos hq0]
    rw [hfin]; clear hfin
    go_enter Try.func97, Try.ntmps97
    go_wp2_with (go_at_call 102; refine HI.out.mono ?_; rintro e w' ⟨rfl, hbw⟩; obtain ⟨hc, hff⟩ := bcell hbw; have hz : w.heap.size + 1 < w'.heap.size := by have := hbw.size; simp at this; omega)
    exact bodyPost_ret (v := .agg #[.int .i64 (-p), .int .i64 q]) (by simp [results, Try.results97, go_sem, hc, hz]) rfl ⟨rfl, (((((((Below.refl _ _).alloc (Nat.le_refl _) _).alloc (by simp) _).trans (hbw.mono (by simp; omega))).setCell (by simp) _).setCell (by simp) _).alloc (by simp; omega) _)⟩
  · have hfin : turnF n d = (p, q) := by rw [HF.out, if_neg hq0]
    rw [hfin]; clear hfin
    go_enter Try.func97, Try.ntmps97
    go_wp2_with (go_at_call 102; refine HI.out.mono ?_; rintro e w' ⟨rfl, hbw⟩; obtain ⟨hc, hff⟩ := bcell hbw; have hz : w.heap.size + 1 < w'.heap.size := by have := hbw.size; simp at this; omega)
    exact bodyPost_ret (v := .agg #[.int .i64 p, .int .i64 q]) (by simp [results, Try.results97, go_sem, hc, hz]) rfl ⟨rfl, (((((((Below.refl _ _).alloc (Nat.le_refl _) _).alloc (by simp) _).trans (hbw.mono (by simp; omega))).setCell (by simp) _).setCell (by simp) _).alloc (by simp; omega) _)⟩

def stepF (f : Int × Int) (k : Int) : Int × Int := if k = 0 then turnF f.1 f.2 else (f.1 + k * f.2, f.2)
def applyL (f : Int × Int) (ops : List Int) : Int × Int := ops.foldl stepF f
def FOk (f : Int × Int) : Prop := FracOk f.1 f.2
theorem applyL_snoc (f : Int × Int) (ops : List Int) (k : Nat) (h : k < ops.length) : applyL f (ops.take (k + 1)) = stepF (applyL f (ops.take k)) (nth ops k) := by
  rw [List.take_succ_eq_append_getElem h, applyL, List.foldl_append, ← nth_lt h]; rfl

set_option maxHeartbeats 1000000 in
set_option maxRecDepth 100000 in
theorem apply_calls (n d : Int) (v : Value) (ops : List Int) (w : World) (hv : Ints w v ops) (hl : ops.length ≤ 200) (hb : ∀ k ∈ ops, -1000000 ≤ k ∧ k ≤ 1000000) (hok : ∀ k, k ≤ ops.length → FOk (applyL (n, d) (ops.take k))) :
    Calls Try.prog 51 #[.agg #[.int .i64 n, .int .i64 d], v] w fun e w' => e = .returned (.tuple #[.agg #[.int .i64 (applyL (n, d) ops).1, .int .i64 (applyL (n, d) ops).2], .int .i64 0]) ∧ Below w.heap.size w w' := by
  have sv := hv.isSl
  have lv := hv.len
  have HV := Lib.hid hv; clear hv
  have HB := Lib.hid hb; clear hb
  have h0 : FracOk n d := hok 0 (by omega)
  have HOK := Lib.hid hok; clear hok
  obtain ⟨R, hR⟩ : ∃ R, R = applyL (n, d) ops := ⟨_, rfl⟩
  rw [← hR]
  have HR := Lib.hid hR; clear hR
  have HC := Lib.hid (fun W => tcheck_calls n d W h0); clear h0
  obtain ⟨W2, hW2⟩ : ∃ W2, W2 = (w.alloc (.cells #[.int .i64 n, .int .i64 d] 68)).alloc (.cells #[.int .i64 0, .int .i64 0] 68) := ⟨_, rfl⟩
  have p1 : Pair W2 w.heap.size 68 (.int .i64 n) (.int .i64 d) := by rw [hW2]; exact (pair_new w _ _ _).alloc _
  have p2 : Pair W2 (w.heap.size + 1) 68 (.int .i64 0) (.int .i64 0) := by
    rw [hW2]; have := pair_new (w.alloc (.cells #[.int .i64 n, .int .i64 d] 68)) 68 (.int .i64 0) (.int .i64 0)
    rwa [World.size_alloc] at this
  have hs2 : W2.heap.size = w.heap.size + 2 := by rw [hW2]; simp
  have b2 : Below w.heap.size w W2 := by rw [hW2]; exact ((Below.refl _ _).alloc (Nat.le_refl _) _).alloc (by simp) _
  have HW2 := Lib.hid hW2.symm; clear hW2
  have P1 := Lib.hid p1; have P2 := Lib.hid p2; have B2 := Lib.hid b2; have HS2 := Lib.hid hs2; clear p1 p2 b2 hs2
  go_enter Try.func51, Try.ntmps51
  go_wp2_with fail
  rw [HW2.out]
  refine (HC.out _).mono ?_
  rintro e w1 ⟨rfl, hb1⟩
  have hb1s := hb1.size
  rw [HS2.out] at hb1s
  have q1 := P1.out.under hb1 (by rw [HS2.out]; omega)
  have q2 := P2.out.under hb1 (by rw [HS2.out]; omega)
  have hbb : Below w.heap.size w w1 := B2.out.trans (hb1.mono (by rw [HS2.out]; omega))
  have Q1 := Lib.hid q1; have Q2 := Lib.hid q2; have HBB := Lib.hid hbb; clear q1 q2 hbb hb1
  go_wp2_with fail
  go_loopw [21] (fun i wr => ∃ (k : Nat) (f : Int × Int), k ≤ ops.length ∧ i = .int .i64 k ∧ f = applyL (n, d) (ops.take k) ∧ Pair wr w.heap.size 68 (.int .i64 f.1) (.int .i64 f.2) ∧ Pair wr (w.heap.size + 1) 68 (.int .i64 0) (.int .i64 0) ∧ Below w.heap.size w wr) (fun i _ => ops.length - (intOf i).toNat)
  case atStart => exact ⟨0, (n, d), Nat.zero_le _, rfl, rfl, Q1.out, Q2.out, HBB.out⟩
  case round =>
    obtain ⟨k, ⟨x, y⟩, hk, rfl, hf, g1, g2, hbr⟩ := hrel
    have hxy : FracOk x y := by have := HOK.out k hk; rw [← hf] at this; exact this
    have lt1 := g1.lt
    have lt2 := g2.lt
    simp only at g1
    have c0 := g1.cell0
    have c1 := g1.cell1
    have f0 := g1.free0
    have f1 := g1.free1
    have e0 := g2.cell0
    have e1 := g2.cell1
    have e2 := g2.free0
    have e3 := g2.free1
    have HF := Lib.hid hf; clear hf
    have G1 := Lib.hid g1; have G2 := Lib.hid g2; have HBR := Lib.hid hbr; clear g1 g2 hbr
    by_cases hlt : k < ops.length
    · have hc := (HV.out.below HBR.out).cell hlt
      obtain ⟨o, ho⟩ : ∃ o, nth ops k = o := ⟨_, rfl⟩
      have hbo := HB.out _ (nth_mem hlt)
      rw [ho] at hbo hc
      obtain ⟨hbo1, hbo2⟩ := hbo
      have hnb1 : ¬ o < -1000000 := by omega
      have hnb2 : ¬ 1000000 < o := by omega
      have hst := applyL_snoc (n, d) ops k hlt
      rw [ho, ← HF.out] at hst
      have hnx : FOk (stepF (x, y) o) := by have := HOK.out (k + 1) (by omega); rw [hst] at this; exact this
      have HST := Lib.hid hst; clear hst
      have HO := Lib.hid ho; clear ho
      have hxn : x.natAbs ≤ 1000000 := by have := hxy.n0; have := hxy.n1; omega
      have hyn : y.natAbs ≤ 1000000 := by have := hxy.d0; have := hxy.d1; omega
      have hy0 := hxy.d0
      by_cases hz : o = 0
      · subst hz
        obtain ⟨p, q, hpq⟩ : ∃ p q, stepF (x, y) 0 = (p, q) := ⟨_, _, rfl⟩
        have htu : turnF x y = (p, q) := hpq
        have HT := tturn_calls x y wr hxn hyn hy0
        rw [htu] at HT
        rw [hpq] at hnx
        have HTT := Lib.hid HT; clear HT htu
        have HNX := Lib.hid hnx; clear hnx hxy
        have HPQ := Lib.hid hpq; clear hpq
        go_wp2_with fail
        refine HTT.out.mono ?_
        rintro e w3 ⟨rfl, hb3⟩
        have hb3s := hb3.size
        have k1 := (G1.out.under hb3 lt1)
        have k2 := (G2.out.under hb3 lt2)
        have c0' := k1.cell0; have c1' := k1.cell1; have f0' := k1.free0; have f1' := k1.free1
        have k3 := k1.set (.int .i64 p) (.int .i64 q)
        have k4 := (k2.other (C := w.heap.size) (by omega) 0 (.int .i64 p)).other (C := w.heap.size) (by omega) 1 (.int .i64 q)
        have hb4 : Below w.heap.size w ((w3.setCell ⟨w.heap.size, 0, none⟩ (.int .i64 p)).setCell ⟨w.heap.size, 1, none⟩ (.int .i64 q)) := ((HBR.out.trans (hb3.mono HBR.out.size)).setCell (Nat.le_refl _) _).setCell (Nat.le_refl _) _
        have K3 := Lib.hid k3; have K4 := Lib.hid k4; have HB4 := Lib.hid hb4; clear k1 k2 k3 k4 hb3 hb4
        go_wp2_with fail
        refine (tcheck_calls _ _ _ HNX.out).mono ?_
        rintro e w5 ⟨rfl, hb5⟩
        have hb5s := hb5.size
        have l3 := K3.out.under hb5 (by simp; omega)
        have l4 := K4.out.under hb5 (by simp; omega)
        have hb6 := HB4.out.trans (hb5.mono (by simp; omega))
        go_wp2_with fail
        go_roundw
        case rel => exact ⟨k + 1, (p, q), by omega, by go_num, by rw [HST.out, HPQ.out], l3, l4, hb6⟩
        case measure => simp [intOf]; omega
      · have hz1 : (o == 0) = false := by simp [hz]
        have hpq : stepF (x, y) o = (x + o * y, y) := by unfold stepF; rw [if_neg hz]
        rw [hpq] at hnx
        clear hz
        have HNX := Lib.hid hnx; clear hnx hxy
        have HPQ := Lib.hid hpq; clear hpq
        go_wp2_with fail
        refine (tplus_calls x y o _ (by omega) hyn (by omega)).mono ?_
        rintro e w3 ⟨rfl, hb3⟩
        have hb3s := hb3.size
        have k1 := (G1.out.under hb3 lt1)
        have k2 := (G2.out.under hb3 lt2)
        have c0' := k1.cell0; have c1' := k1.cell1; have f0' := k1.free0; have f1' := k1.free1
        have k3 := k1.set (.int .i64 (x + o * y)) (.int .i64 y)
        have k4 := (k2.other (C := w.heap.size) (by omega) 0 (.int .i64 (x + o * y))).other (C := w.heap.size) (by omega) 1 (.int .i64 y)
        have hb4 : Below w.heap.size w ((w3.setCell ⟨w.heap.size, 0, none⟩ (.int .i64 (x + o * y))).setCell ⟨w.heap.size, 1, none⟩ (.int .i64 y)) := ((HBR.out.trans (hb3.mono HBR.out.size)).setCell (Nat.le_refl _) _).setCell (Nat.le_refl _) _
        have K3 := Lib.hid k3; have K4 := Lib.hid k4; have HB4 := Lib.hid hb4; clear k1 k2 k3 k4 hb3 hb4
        go_wp2_with fail
        refine (tcheck_calls _ _ _ HNX.out).mono ?_
        rintro e w5 ⟨rfl, hb5⟩
        have hb5s := hb5.size
        have l3 := K3.out.under hb5 (by simp; omega)
        have l4 := K4.out.under hb5 (by simp; omega)
        have hb6 := HB4.out.trans (hb5.mono (by simp; omega))
        go_wp2_with fail
        go_roundw
        case rel => exact ⟨k + 1, (x + o * y, y), by omega, by go_num, by rw [HST.out, HPQ.out], l3, l4, hb6⟩
        case measure => simp [intOf]; omega
    · have hfin : R = (x, y) := by
        rw [HR.out, HF.out, List.take_of_length_le (by omega)]
      have HFIN := Lib.hid hfin; clear hfin hxy
      go_wp2_with fail
      exact bodyPost_ret (v := .tuple #[.agg #[.int .i64 x, .int .i64 y], .int .i64 0]) (by simp [results, Try.results51, go_sem, e0, e1]) rfl ⟨by rw [HFIN.out], (HBR.out.setCell (by simp) _).setCell (by simp) _⟩
end Go.Proofs.Ytpnbkoihglppnaa

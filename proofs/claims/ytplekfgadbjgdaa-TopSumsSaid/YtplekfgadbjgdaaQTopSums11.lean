/- laurent.Trim, Term, Check, both, Fit walked. -/
import Derived.Test.YtplekfgadbjgdaaQTopSums0
import Derived.Test.YtplekfgadbjgdaaQTopSums1
import Derived.Test.YtplekfgadbjgdaaQTopSums3
import Derived.Test.YtplekfgadbjgdaaQTopSums4
import Derived.Test.YtplekfgadbjgdaaQTopSums5
import Derived.Test.YtplekfgadbjgdaaQTopSums6
import Derived.Test.YtplekfgadbjgdaaQTopSums10
import Derived.Shelf.Abstract
import Derived.Deep.QuietTactic
import Derived.BigQuiet
namespace Go.Proofs.Ytplekfgadbjgdaa
open Go.RowKit Go.Sl

@[go_sem] theorem run_store_func {P : Program} {w : World} {a : Addr} {m : Mode} (f : Fn) (b c : Array Value) : (store a (.func f b c) m).run P w = stored P w a (.func f b c) m := run_store P w a _ m rfl

theorem enters_any {k : FuncId} (h : Go.Proofs.Enters Try.prog k) : ∀ args w, (callFunc k args).run Try.prog w = .ok (.enter k args) w := h

theorem trim1_zero (w : World) : Calls Try.prog 143 #[.int .i64 0] w fun e w' => e = .returned (.bool true) ∧ w = w' := by
  go_enter Try.func143, Try.ntmps143
  go_wp2
  go_ret
  exact ⟨rfl, rfl⟩
theorem trim1_other (x : Int) (w : World) (h : x ≠ 0) : Calls Try.prog 143 #[.int .i64 x] w fun e w' => e = .returned (.bool false) ∧ w = w' := by
  have h0 : (x == 0) = false := by simp [h]
  clear h
  go_enter Try.func143, Try.ntmps143
  go_wp2
  go_ret
  exact ⟨rfl, rfl⟩
theorem trim2_zero (B : Nat) (w : World) (hc : w.cell? ⟨B, 0, none⟩ = some (.func (.func 143) #[] #[])) :
    Calls Try.prog 145 #[.int .i64 0, .pointer (some ⟨B, 0, none⟩)] w fun e w' => e = .returned (.bool false) ∧ w = w' := by
  go_enter Try.func145, Try.ntmps145
  go_wp2_with (go_at_call 143; refine (trim1_zero _).mono ?_; rintro e w' ⟨rfl, rfl⟩)
  go_ret
  exact ⟨rfl, rfl⟩
theorem trim2_other (B : Nat) (x : Int) (w : World) (h : x ≠ 0) (hc : w.cell? ⟨B, 0, none⟩ = some (.func (.func 143) #[] #[])) :
    Calls Try.prog 145 #[.int .i64 x, .pointer (some ⟨B, 0, none⟩)] w fun e w' => e = .returned (.bool true) ∧ w = w' := by
  have H := Lib.hid h; clear h
  go_enter Try.func145, Try.ntmps145
  go_wp2_with (go_at_call 143; refine (trim1_other _ _ H.out).mono ?_; rintro e w' ⟨rfl, rfl⟩)
  go_ret
  exact ⟨rfl, rfl⟩

theorem nth_take {l : List Int} {k i : Nat} (h : i < k) : nth (l.take k) i = nth l i := by
  simp [nth, h]
theorem nth_drop {l : List Int} {k i : Nat} : nth (l.drop k) i = nth l (k + i) := by
  simp [nth]
theorem evL_zero_of {l : List Int} (h : ∀ j, j < l.length → nth l j = 0) (t : Rat) : evL l t = 0 := by
  have : l = List.replicate l.length 0 := by
    apply ext_nth (by simp)
    intro k hk
    rw [h k hk, nth_lt (by simpa using hk)]; simp
  rw [this, evL_replicate]
theorem trimP_zero {low : Int} {c : List Int} (h : ∀ j, j < c.length → nth c j = 0) : trimP low c = ⟨0, []⟩ :=
  trimP_eq pzero_trimmed fun t _ => by rw [evL_zero_of h]; simp [ev, evL]
theorem trimP_some {low : Int} {c : List Int} {m L : Nat} (hm : m < L) (hL : L ≤ c.length) (h0 : ∀ j, j < m → nth c j = 0) (h1 : nth c m ≠ 0) (h2 : nth c (L - 1) ≠ 0) (h3 : ∀ j, L ≤ j → nth c j = 0) :
    trimP low c = ⟨low + m, (c.drop m).take (L - m)⟩ := by
  have hl : ((c.drop m).take (L - m)).length = L - m := by simp; omega
  refine trimP_eq ⟨fun e => ?_, fun _ => ?_, fun _ => ?_⟩ fun t ht => ?_
  · simp only at e; rw [e] at hl; simp at hl; omega
  · simp only; rw [nth_take (by omega), nth_drop]; exact h1
  · simp only; rw [hl, nth_take (by omega), nth_drop, show m + (L - m - 1) = L - 1 by omega]; exact h2
  · have e1 : evL c t = t ^ m * evL ((c.drop m).take (L - m)) t := by
      have a1 : c = c.take m ++ ((c.drop m).take (L - m) ++ (c.drop m).drop (L - m)) := by rw [List.take_append_drop, List.take_append_drop]
      have z1 : evL (c.take m) t = 0 := evL_zero_of (fun j hj => by
        have : j < m := by simp at hj; omega
        rw [nth_take this]; exact h0 j this) t
      have z2 : evL ((c.drop m).drop (L - m)) t = 0 := evL_zero_of (fun j hj => by rw [nth_drop, nth_drop]; exact h3 _ (by omega)) t
      conv => lhs; rw [a1]
      rw [evL_append, evL_append, z1, z2]
      have : (c.take m).length = m := by simp; omega
      rw [this]; grind
    simp only [ev]
    rw [e1, Rat.zpow_add ht, Rat.zpow_natCast]; grind
theorem exists_first {c : List Int} (h : ¬ ∀ j, j < c.length → nth c j = 0) : ∃ m, m < c.length ∧ nth c m ≠ 0 ∧ ∀ j, j < m → nth c j = 0 := by
  obtain ⟨j, hj⟩ := Classical.not_forall.1 h
  have hj1 : j < c.length := Classical.byContradiction fun hn => hj fun h => absurd h hn
  have hj2 : nth c j ≠ 0 := fun e => hj fun _ => e
  have hex : ∃ m, m < c.length ∧ nth c m ≠ 0 := ⟨j, hj1, hj2⟩
  clear hj hj1 hj2
  obtain ⟨j, hj⟩ := hex
  induction j using Nat.strongRecOn with
  | _ j ih =>
    by_cases hall : ∀ i, i < j → nth c i = 0
    · exact ⟨j, hj.1, hj.2, hall⟩
    · obtain ⟨i, hi⟩ := Classical.not_forall.1 hall
      have hi1 : i < j := Classical.byContradiction fun hn => hi fun h => absurd h hn
      exact ih i hi1 ⟨by omega, fun e => hi fun _ => e⟩

set_option maxHeartbeats 1000000 in
set_option maxRecDepth 100000 in
theorem trim_calls (low : Int) (v : Value) (c : List Int) (w : World) (hv : Ints w v c) (hl : c.length ≤ 1000000) (h1 : -1000000000 ≤ low) (h2 : low ≤ 1000000000) :
    Calls Try.prog 110 #[.int .i64 low, v] w fun e w' => ∃ s, e = .returned (.agg #[.int .i64 (trimP low c).low, s]) ∧ OwnI w' w.heap.size s (trimP low c).c ∧ Below w.heap.size w w' := by
  have sv := hv.isSl
  have lv := hv.len
  have hcap := hv.cap
  by_cases hall : ∀ j, j < c.length → nth c j = 0
  · have hz := trimP_zero (low := low) hall
    rw [hz]; clear hz
    have HA := Lib.hid hall; clear hall
    have HV := Lib.hid hv; clear hv
    go_enter Try.func110, Try.ntmps110
    go_wp2_with fail
    refine (indexFunc_none _ c _ _ (enters_any (Go.Proofs.enters_of Try.func145 (by kernel_rfl) rfl)) _ ((HV.out.alloc _).alloc _) ?_).mono ?_
    · intro x hx
      obtain ⟨j, hj, rfl⟩ := List.getElem_of_mem hx
      have := HA.out j hj
      rw [nth_lt hj] at this
      rw [this]
      exact trim2_zero _ _ (by simp [go_sem])
    rintro e w' ⟨rfl, rfl⟩
    go_wp2_with fail
    exact bodyPost_ret (v := .agg #[.int .i64 0, .slice none 0 0]) (by simp [results, Try.results110, go_sem]) rfl ⟨_, rfl, ownI_nil _ _, ((Below.refl _ _).alloc (Nat.le_refl _) _).alloc (by simp) _⟩
  · obtain ⟨m, hm, hm1, hm0⟩ := exists_first hall
    clear hall
    have HM1 := Lib.hid hm1; have HM0 := Lib.hid hm0
    have HV := Lib.hid hv; clear hv
    clear hm1 hm0
    go_enter Try.func110, Try.ntmps110
    go_wp2_with fail
    refine (indexFunc_some _ c _ _ (enters_any (Go.Proofs.enters_of Try.func145 (by kernel_rfl) rfl)) m _ ((HV.out.alloc _).alloc _) hm ?_ ?_).mono ?_
    · intro j hj
      rw [HM0.out j hj]
      exact trim2_zero _ _ (by simp [go_sem])
    · exact trim2_other _ _ _ HM1.out (by simp [go_sem])
    rintro e w' ⟨rfl, rfl⟩
    go_wp2_with fail
    obtain ⟨W2, hW2⟩ : ∃ W2, W2 = (w.alloc (.cells #[.int .i64 0, .slice none 0 0] 40)).alloc (.cells #[.func (.func 143) #[] #[]] 121) := ⟨_, rfl⟩
    have P0 := Lib.hid (show Pair W2 w.heap.size 40 (.int .i64 0) (.slice none 0 0) by rw [hW2]; exact (pair_new w _ _ _).alloc _)
    have B0 := Lib.hid (show Below w.heap.size w W2 by rw [hW2]; exact ((Below.refl _ _).alloc (Nat.le_refl _) _).alloc (by simp) _)
    have F0 := Lib.hid (show W2.cell? ⟨w.heap.size + 1, 0, none⟩ = some (.func (.func 143) #[] #[]) by rw [hW2]; simp [go_sem])
    have S0 := Lib.hid (show w.heap.size + 2 ≤ W2.heap.size by rw [hW2]; simp)
    rw [← hW2]; clear hW2
    go_loopw [7] (fun l wr => ∃ L : Nat, m < L ∧ L ≤ c.length ∧ l = .int .i64 L ∧ (∀ j, L ≤ j → nth c j = 0) ∧ Pair wr w.heap.size 40 (.int .i64 0) (.slice none 0 0) ∧ wr.cell? ⟨w.heap.size + 1, 0, none⟩ = some (.func (.func 143) #[] #[]) ∧ w.heap.size + 2 ≤ wr.heap.size ∧ Below w.heap.size w wr) (fun l _ => (intOf l).toNat)
    case atStart => exact ⟨c.length, hm, Nat.le_refl _, rfl, fun j hj => nth_ge hj, P0.out, F0.out, S0.out, B0.out⟩
    case round =>
      obtain ⟨L, hmL, hLc, rfl, hz, hp, hcell, hsz, hbr⟩ := hrel
      have HZ := Lib.hid hz; have HP := Lib.hid hp; have HC := Lib.hid hcell; have HBR := Lib.hid hbr; clear hz hp hbr
      obtain ⟨J, hJ⟩ : ∃ J, J = L - 1 := ⟨_, rfl⟩
      have hJ1 : J < c.length := by omega
      have hJi : (L : Int) - 1 = (J : Int) := by omega
      have c1 := (HV.out.below HBR.out).cell hJ1
      have hw1 : IntKind.i64.wrap ((L : Int) - 1) = (J : Int) := by rw [hJi]; exact IntWalk.i64_in _ (by omega)
      have hLJ : L = J + 1 := by omega
      have HLJ := Lib.hid hLJ
      have hm' : m ≤ J := by omega
      have HJI := Lib.hid hJi; clear hJi hLJ hJ
      by_cases hx : nth c J = 0
      · have HX := Lib.hid hx
        rw [hx] at c1; clear hx
        go_wp2_with fail
        go_quiet ((go_at_call 143; exact Calls.quiet_of_same ((trim1_zero _).mono fun _ _ ⟨a, b⟩ => ⟨a, b.symm⟩)))
        clear hw1
        go_wp2_with fail
        rw [HJI.out]
        go_roundw
        case rel => exact ⟨J, by
            rcases Nat.lt_or_ge m J with h | h
            · exact h
            · have : m = J := by omega
              exact absurd (this ▸ HX.out) HM1.out, by omega, rfl, fun j hj => by
            rcases Nat.lt_or_ge J j with h | h
            · exact HZ.out j (by have := HLJ.out; omega)
            · have : j = J := by omega
              rw [this]; exact HX.out, HP.out.below (Below.drawn _), by simpa using HC.out, by simpa using hsz, Below.trans HBR.out ((Below.drawn _).mono HBR.out.size)⟩
        case measure => have := HLJ.out; simp [intOf]; omega
      · have HX := Lib.hid hx
        clear hx
        go_wp2_with fail
        go_quiet ((go_at_call 143; exact Calls.quiet_of_same ((trim1_other _ _ HX.out).mono fun _ _ ⟨a, b⟩ => ⟨a, b.symm⟩)))
        clear hw1
        have hcut : ∀ n, Ints (wr.drewN n) (vcut v m L (vcap v) 1) ((c.drop m).take (L - m)) := fun n => ((HV.out.below HBR.out).below (Below.drawn n)).cut (by omega) (by omega) (by omega) (by omega)
        have htr : trimP low c = ⟨low + m, (c.drop m).take (L - m)⟩ := trimP_some hmL hLc HM0.out HM1.out (by rw [show L - 1 = J by have := HLJ.out; omega]; exact HX.out) HZ.out
        have hcl : ((c.drop m).take (L - m)).length ≤ 1000000 := by simp; omega
        have HTR := Lib.hid htr; have HCUT := Lib.hid hcut; clear htr hcut
        generalize (c.drop m).take (L - m) = T at *
        go_wp2_with fail
        refine (clone_calls _ T _ (HCUT.out _) hcl).mono ?_
        rintro e w3 ⟨t, rfl, ht, hb3⟩
        have st := ht.isSl
        have hb3s := hb3.size
        simp at hb3s
        have HT := Lib.hid ht; clear ht
        have HB3 := Lib.hid (Below.chain (Below.trans HBR.out ((Below.drawn _).mono HBR.out.size)) hb3)
        have HP3 := Lib.hid ((HP.out.below (Below.drawn _)).below hb3)
        clear hb3
        go_wp2_with fail
        refine (clip_calls _ T _ _ HT.out).mono ?_
        rintro e w4 ⟨rfl, t2, rfl, ht2⟩
        obtain ⟨ta, tn, tc, rfl, -⟩ := ht2.isSl.cases
        have d0 := HP3.out.cell0; have d1 := HP3.out.cell1; have e0 := HP3.out.free0; have e1 := HP3.out.free1
        have HT2 := Lib.hid ht2; clear ht2
        go_wp2_with fail
        rw [HTR.out]
        refine bodyPost_ret (v := .agg #[.int .i64 (low + m), .slice ta tn tc]) (by simp [results, Try.results110, go_sem, d0, d1]) rfl ⟨_, rfl, ?_, (HB3.out.setCell (Nat.le_refl _) _).setCell (Nat.le_refl _) _⟩
        have hlo := HT2.out.low (B' := w.heap.size + 1) (by simp; omega)
        exact ((hlo.setOther (fun k hk e => by have := (hlo.lt k hk).1; simp at e; omega) _).setOther (fun k hk e => by have := (hlo.lt k hk).1; simp at e; omega) _).low (by omega)
end Go.Proofs.Ytplekfgadbjgdaa


/- perm.Unrank walked. -/
import Derived.Test.YtbopcejelddooaaDelete
import Derived.Test.YtbopcejelddooaaNumbers
namespace Go.Proofs.Ytbopcejelddooaa
open Go.RowKit Go.Sl

theorem fact_le (k : Nat) (h : k ≤ 9) : fact k ≤ 362880 := by
  have : ∀ j : Fin 10, fact j.1 ≤ 362880 := by decide
  exact this ⟨k, by omega⟩

theorem unrank_step {rl dl X : List Int} {m r : Nat} (hm : rl.length = m + 1) (hq : r / fact m < rl.length) (h : dl ++ unrankGo rl.length rl r = X) :
    (dl ++ [nth rl (r / fact m)]) ++ unrankGo (rl.eraseIdx (r / fact m)).length (rl.eraseIdx (r / fact m)) (r % fact m) = X := by
  rw [hm, unrankGo] at h
  rw [List.length_eraseIdx, if_pos hq, hm, ← h]
  simp

set_option maxHeartbeats 4000000 in
set_option maxRecDepth 100000 in
theorem unrank_calls (n r : Nat) (w : World) (hn : n ≤ 9) (hr : r < fact n) :
    Calls Try.prog 48 #[.int .i64 n, .int .i64 r] w fun e w' => ∃ v, e = .returned (.tuple #[v, .int .i64 0]) ∧ OwnI w' w.heap.size v (unrankGo n (iota n) r) ∧ Below w.heap.size w w' := by
  have hfl := fact_le n hn
  have HR := Lib.hid hr; clear hr
  have hrb : r < 362880 := by have := HR.out; omega
  go_enter Try.func48, Try.ntmps48
  go_wp2_with fail
  go_loop [6, 18] (fun c i => ∃ k f : Nat, k ≤ n ∧ i = .int .i64 k ∧ c = .int .i64 f ∧ f = fact k) (fun _ i => n - (intOf i).toNat)
  case atStart => exact ⟨0, 1, Nat.zero_le _, rfl, rfl, rfl⟩
  case round =>
    obtain ⟨k, f, hk, rfl, rfl, hf⟩ := hrel
    by_cases hlt : k < n
    · have hfk := fact_le k (by omega)
      have hfk2 := fact_le (k + 1) (by omega)
      rw [← hf] at hfk
      have hmul : f * (k + 1) = fact (k + 1) := by rw [fact, ← hf, Nat.mul_comm]
      have hm2 : (f : Int) * ((k : Int) + 1) = (fact (k + 1) : Nat) := by rw [← hmul]; push_cast; rfl
      have hfi : ((fact (k + 1) : Nat) : Int) ≤ 362880 := by omega
      have HF := Lib.hid hf; clear hf
      clear hmul
      go_wp2_with fail
      go_round
      case rel => exact ⟨k + 1, fact (k + 1), by omega, by go_num, by go_num, rfl⟩
      case measure => simp [intOf]; omega
    · have hkn : k = n := by omega
      subst hkn
      have hfl2 : f ≤ 362880 := by omega
      have hrf : r < f := by have := HR.out; omega
      have HF := Lib.hid hf; clear hf
      go_wp2_with (first
        | (go_at_call 79; refine (identity_calls _ _ (by omega)).mono ?_; rintro e w1 ⟨rs0, rfl, hor0, hb0⟩; have so := hor0.isSl))
      have HO := Lib.hid hor0; clear hor0
      have HB := Lib.hid hb0; clear hb0
      obtain ⟨X, hX⟩ : ∃ X, unrankGo k (iota k) r = X := ⟨_, rfl⟩
      have hfe : f = fact k := HF.out
      go_loopw [1, 6, 8, 9] (fun rk c rs out wr => ∃ (r1 c1 : Nat) (rl dl : List Int), rk = .int .i64 r1 ∧ c = .int .i64 c1 ∧ c1 = fact rl.length ∧ r1 < c1 ∧ rl.length ≤ 9 ∧ dl.length + rl.length ≤ 9 ∧ OwnI wr w.heap.size rs rl ∧ OwnI wr w.heap.size out dl ∧
          (∀ b, row rs = some b → row out ≠ some b) ∧ dl ++ unrankGo rl.length rl r1 = X ∧ Below w.heap.size w wr) (fun _ _ rs _ _ => vlen rs)
      case atStart => exact ⟨r, f, iota k, [], rfl, rfl, by rw [iota_length]; exact hfe, hrf, by rw [iota_length]; exact hn, by rw [iota_length]; simpa using hn, HO.out, ownI_nil _ _, by intro b hb; simp, by rw [iota_length]; exact hX, HB.out⟩
      case round =>
        obtain ⟨r1, c1, rl, dl, rfl, rfl, hc1, hr1, hl9, hdl, hor, hod, hap, hval, hbr⟩ := hrel
        clear hfe
        have HXX := Lib.hid hX; clear hX
        have sr := hor.isSl
        have lr := hor.len
        have hbs := hbr.size
        have hc9 := fact_le rl.length hl9
        rw [← hc1] at hc9
        have HBR := Lib.hid hbr; clear hbr
        have HAP := Lib.hid hap; clear hap
        have HV := Lib.hid hval; clear hval
        by_cases hpos : 0 < rl.length
        · obtain ⟨m, hm⟩ : ∃ m, rl.length = m + 1 := ⟨rl.length - 1, by omega⟩
          obtain ⟨c2, hc2⟩ : ∃ c2, c2 = fact m := ⟨_, rfl⟩
          have hc2p : 0 < c2 := by rw [hc2]; exact fact_pos m
          have hcc : c1 = rl.length * c2 := by rw [hc1, hm, fact, hc2]
          have d1 : c1 / rl.length = c2 := by rw [hcc, Nat.mul_div_cancel_left _ hpos]
          have d2 : r1 / c2 < rl.length := (Nat.div_lt_iff_lt_mul hc2p).2 (by rw [← hcc]; exact hr1)
          have d3 : r1 % c2 < c2 := Nat.mod_lt _ hc2p
          have hstep := unrank_step (dl := dl) (X := X) (r := r1) hm (by rw [← hc2]; exact d2) HV.out
          rw [← hc2] at hstep
          have hc29 : c2 ≤ 362880 := by rw [hc2]; exact fact_le m (by omega)
          obtain ⟨q, hq⟩ : ∃ q, r1 / c2 = q := ⟨_, rfl⟩
          obtain ⟨r2, hr2⟩ : ∃ r2, r1 % c2 = r2 := ⟨_, rfl⟩
          rw [hq, hr2] at hstep
          rw [hq] at d2
          rw [hr2] at d3
          have t1 : (c1 : Int).tdiv (rl.length : Int) = (c2 : Int) := by rw [← d1]; rfl
          have t2 : (r1 : Int).tdiv (c2 : Int) = (q : Int) := by rw [← hq]; rfl
          have t3 : (r1 : Int).tmod (c2 : Int) = (r2 : Int) := by rw [← hr2]; rfl
          have z1 : ¬ (rl.length : Int) = 0 := by omega
          have z2 : ¬ (c2 : Int) = 0 := by omega
          have hcel := hor.cell d2
          have hel : (rl.eraseIdx q).length = m := by rw [List.length_eraseIdx, if_pos d2]; omega
          have hc3 : c2 = fact (rl.eraseIdx q).length := by rw [hel]; exact hc2
          have HST := Lib.hid hstep; clear hstep
          have HC3 := Lib.hid hc3; clear hc3
          have HEL := Lib.hid hel; clear hel
          have HM := Lib.hid hm; clear hm
          clear hc2 hcc d1 hq hr2 hc1
          go_wp2_with (first
            | (at_builtin; refine wpList_push (v := u9) rfl _ _ rfl rfl rfl hod hbs (by omega) ?_; intro out2 w2 ho2 hg2 hr2; clear hcel; have hor2 : OwnI w2 w.heap.size u8 rl := hor.grown hg2 HAP.out)
            | (go_at_call 82; refine (delete_calls _ rl q w.heap.size _ hor2 d2 (by omega)).mono ?_; rintro e1 w3 ⟨v3, rfl, ho3, hg3, hr3⟩))
          have hap2 : ∀ b, row out2 = some b → row u8 ≠ some b := by
            intro b hb hb'
            rcases hr2 b hb with h' | h'
            · exact HAP.out b hb' h'
            · have := (hor.lt b hb').2; omega
          have hB2 : Below w.heap.size w w2 := Below_of_grown HBR.out hg2 hbs (fun b hb => (hod.lt b hb).1)
          have hB3 : Below w.heap.size w w3 := Below_of_grown hB2 hg3 hB2.size (fun b hb => (hor2.lt b hb).1)
          have hel := HEL.out
          have hmm := HM.out
          go_roundw
          case rel => exact ⟨r2, c2, rl.eraseIdx q, dl ++ [nth rl q], rfl, rfl, HC3.out, d3, by omega, by simp; omega, ho3, ho2.grown hg3 hap2, fun b hb hb' => hap2 b hb' (by rw [← hr3]; exact hb), HST.out, hB3⟩
          case measure => rw [ho3.len, hor.len]; omega
        · have h0 : rl.length = 0 := by omega
          have hdX : dl = X := by have := HV.out; rw [h0] at this; simpa [unrankGo] using this
          clear h0
          have HDX := Lib.hid hdX; clear hdX
          go_wp2_with (first
            | (go_at_call 83; refine (clip_calls _ _ w.heap.size _ hod).mono ?_; rintro e1 w3 ⟨rfl, v3, rfl, ho3⟩))
          go_ret2
          exact ⟨v3, rfl, by rw [HXX.out, ← HDX.out]; exact ho3, HBR.out⟩

end Go.Proofs.Ytbopcejelddooaa

/- slices.EqualFunc over slices of slices of ints. -/
import Derived.Test.YtnmklkjlcpgjmaaQTopWordProblem0
import Derived.Test.YtnmklkjlcpgjmaaQTopWordProblem1
import Derived.Test.YtnmklkjlcpgjmaaQTopWordProblem5
import Derived.Test.YtnmklkjlcpgjmaaQTopWordProblem11

namespace Go.Proofs.Ytnmklkjlcpgjmaa
open Go.RowKit Go.Sl

set_option maxRecDepth 100000 in
set_option maxHeartbeats 2000000 in
theorem equalFunc_calls (u v : Value) (us vs : List Value) (xss yss : List (List Int)) (k : FuncId) (hk : ∀ args w, (callFunc k args).run Try.prog w = .ok (.enter k args) w) (w : World) (hu : RowsV w u us xss) (hv : RowsV w v vs yss)
    (hf : ∀ W a b xs ys, Ints W a xs → Ints W b ys → Calls Try.prog k #[a, b] W fun e W' => e = .returned (.bool (decide (xs = ys))) ∧ Below W.heap.size W W') :
    Calls Try.prog 23 #[u, v, .func (.func k) #[] #[]] w fun e w' => e = .returned (.bool (decide (xss = yss))) ∧ Below w.heap.size w w' := by
  have su := hu.isSl
  have lu := hu.len
  have sv := hv.isSl
  have lv := hv.len
  have i63 := su.i63
  rw [lu] at i63
  have HU := Lib.hid hu; clear hu
  have HV := Lib.hid hv; clear hv
  have HF := Lib.hid hf; clear hf
  by_cases hl : xss.length = yss.length
  · have h0 : ((xss.length : Int) != (yss.length : Int)) = false := by simp [hl]
    have HL := Lib.hid hl; clear hl
    go_enter Try.func23, Try.ntmps23
    go_wp2_with fail
    go_loopw [17] (fun i wr => ∃ k : Nat, k ≤ xss.length ∧ i = .int .i64 k ∧ (∀ j, j < k → nthr xss j = nthr yss j) ∧ Below w.heap.size w wr) (fun i _ => xss.length - (intOf i).toNat)
    case atStart => exact ⟨0, Nat.zero_le _, rfl, by intro j hj; omega, Below.refl _ _⟩
    case round =>
      obtain ⟨j, hkj, rfl, hno, hbr⟩ := hrel
      have HN := Lib.hid hno; clear hno
      by_cases hlt : j < xss.length
      · have hlt' : j < yss.length := by have := HL.out; omega
        have c1 := (HU.out.below hbr).cell hlt
        have c2 := (HV.out.below hbr).cell hlt'
        have ra := (HU.out.below hbr).row hlt
        have rb := (HV.out.below hbr).row hlt'
        have sa := ra.isSl
        have sb := rb.isSl
        have HRA := Lib.hid ra; have HRB := Lib.hid rb; have HBR := Lib.hid hbr
        clear ra rb hbr
        by_cases heq : nthr xss j = nthr yss j
        · have HE := Lib.hid heq; clear heq
          go_wp2_with fail
          refine (HF.out _ _ _ _ _ HRA.out HRB.out).mono ?_
          rintro e w' ⟨rfl, hb'⟩
          rw [decide_eq_true HE.out]
          have HB2 := Lib.hid hb'; clear hb'
          go_wp2_with fail
          go_roundw
          case rel => exact ⟨j + 1, by omega, by go_num, fun m hm => by
            rcases Nat.lt_or_ge m j with h | h
            · exact HN.out m h
            · have e : m = j := by omega
              subst e
              exact HE.out, Below.chain HBR.out HB2.out⟩
          case measure => simp [intOf]; omega
        · have hne : ¬ xss = yss := fun h => heq (by rw [h])
          have HE := Lib.hid hne; have HQ := Lib.hid heq; clear hne heq
          go_wp2_with fail
          refine (HF.out _ _ _ _ _ HRA.out HRB.out).mono ?_
          rintro e w' ⟨rfl, hb'⟩
          rw [decide_eq_false HQ.out]
          have HB2 := Lib.hid hb'; clear hb'
          go_wp2_with fail
          go_ret
          exact ⟨by rw [decide_eq_false HE.out]; rfl, Below.chain HBR.out HB2.out⟩
      · have he : xss = yss := by
          have hl := HL.out
          apply List.ext_getElem hl
          intro m h1 h2
          have := HN.out m (by omega)
          rwa [nthr_lt h1, nthr_lt h2] at this
        have HE := Lib.hid he; clear he
        have HBR := Lib.hid hbr; clear hbr
        go_wp2_with fail
        go_ret
        exact ⟨by rw [decide_eq_true HE.out]; rfl, HBR.out⟩
  · have h0 : ((xss.length : Int) != (yss.length : Int)) = true := by simp; omega
    have hne : ¬ xss = yss := fun h => hl (by rw [h])
    have HE := Lib.hid hne; clear hne hl
    go_enter Try.func23, Try.ntmps23
    go_wp2_with fail
    go_ret
    exact ⟨by rw [decide_eq_false HE.out]; rfl, Below.refl _ _⟩
end Go.Proofs.Ytnmklkjlcpgjmaa


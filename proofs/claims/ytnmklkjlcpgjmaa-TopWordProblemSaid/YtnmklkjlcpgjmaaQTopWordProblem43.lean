/- garside's formOf walked: the normal form of a word. -/
import Derived.Test.YtnmklkjlcpgjmaaQTopWordProblem0
import Derived.Test.YtnmklkjlcpgjmaaQTopWordProblem1
import Derived.Test.YtnmklkjlcpgjmaaQTopWordProblem3
import Derived.Test.YtnmklkjlcpgjmaaQTopWordProblem5
import Derived.Test.YtnmklkjlcpgjmaaQTopWordProblem6
import Derived.Test.YtnmklkjlcpgjmaaQTopWordProblem7
import Derived.Test.YtnmklkjlcpgjmaaQTopWordProblem8
import Derived.Test.YtnmklkjlcpgjmaaQTopWordProblem9
import Derived.Test.YtnmklkjlcpgjmaaQTopWordProblem10
import Derived.Test.YtnmklkjlcpgjmaaQTopWordProblem11
import Derived.Test.YtnmklkjlcpgjmaaQTopWordProblem12
import Derived.Test.YtnmklkjlcpgjmaaQTopWordProblem13
import Derived.Test.YtnmklkjlcpgjmaaQTopWordProblem15
import Derived.Test.YtnmklkjlcpgjmaaQTopWordProblem16
import Derived.Test.YtnmklkjlcpgjmaaQTopWordProblem17
import Derived.Test.YtnmklkjlcpgjmaaQTopWordProblem18
import Derived.Test.YtnmklkjlcpgjmaaQTopWordProblem19
import Derived.Test.YtnmklkjlcpgjmaaQTopWordProblem20
import Derived.Test.YtnmklkjlcpgjmaaQTopWordProblem29
import Derived.Test.YtnmklkjlcpgjmaaQTopWordProblem31
import Derived.Test.YtnmklkjlcpgjmaaQTopWordProblem32
import Derived.Test.YtnmklkjlcpgjmaaQTopWordProblem34
import Derived.Test.YtnmklkjlcpgjmaaQTopWordProblem35
import Derived.Test.YtnmklkjlcpgjmaaQTopWordProblem36
import Derived.Test.YtnmklkjlcpgjmaaQTopWordProblem37
import Derived.Test.YtnmklkjlcpgjmaaQTopWordProblem38
import Derived.Test.YtnmklkjlcpgjmaaQTopWordProblem39
import Derived.Test.YtnmklkjlcpgjmaaQTopWordProblem40
import Derived.Test.YtnmklkjlcpgjmaaQTopWordProblem41
import Derived.Test.YtnmklkjlcpgjmaaQTopWordProblem42

namespace Go.Proofs.Ytnmklkjlcpgjmaa
open Go.RowKit Go.Sl

theorem cn_next {n : Nat} (hn : n ≤ 1000) (h2 : 2 ≤ n) {s c d : St} {x : Int} (hx : Lt n x) (h : Cn n s c) (k : Cn n (mulS n c x) d) : Cn n (mulS n s x) d :=
  (eqv_cn hn h2 (eqv_mul hn hx (cn_eqv hn h2 h)) d).2 k
theorem cn_good {n : Nat} {s c : St} (h : Cn n s c) : Good n c.2 := by
  obtain ⟨g, T, r, _, rfl⟩ := h
  exact fun x hx => r.good g x (List.mem_filter.1 hx).1
theorem cn_start (n : Nat) : Cn n (0, []) (0, []) := ⟨good_nil n, [], .refl _, (fun G s => by cases s), by simp [strip]⟩

set_option maxRecDepth 100000 in
set_option maxHeartbeats 4000000 in
theorem formOf_calls (n : Nat) (v : Value) (xs : List Int) (w : World) (hv : Ints w v xs) (h2 : 2 ≤ n) (h6 : n ≤ 6) (hx : ∀ x ∈ xs, Lt n x) (hl : xs.length ≤ 30) :
    Calls Try.prog 25 #[.int .i64 n, v] w fun e w' => ∃ c u us, e = .returned (.pointer (some ⟨w.heap.size, 0, none⟩)) ∧ Cn n (mulW n (0, []) xs) c ∧ Frm w' w.heap.size w.heap.size n c.1 u us c.2 ∧ Below w.heap.size w w' := by
  have sv := hv.isSl
  have lv := hv.len
  have HV := Lib.hid hv; have HX := Lib.hid hx
  clear hv hx
  go_enter Try.func25, Try.ntmps25
  go_wp2_with fail
  go_loopw [13] (fun s wr => ∃ (k : Nat) (c : St) (u : Value) (us : List Value), s = .int .i64 k ∧ k ≤ xs.length ∧ Cn n (mulW n (0, []) (xs.take k)) c ∧ Frm wr w.heap.size w.heap.size n c.1 u us c.2 ∧ Below w.heap.size w wr ∧ c.2.length ≤ k ∧ -(k : Int) ≤ c.1 ∧ c.1 ≤ 31 * (k : Int)) (fun s _ => xs.length - (intOf s).toNat)
  case atStart =>
    refine ⟨0, (0, []), .slice none 0 0, [], rfl, Nat.zero_le _, by simpa [mulW] using cn_start n, ⟨heap_alloc_new w _, rg_nil _ _, Nat.le_refl _⟩, (Below.refl _ _).alloc (Nat.le_refl _) _, by simp, by simp, by simp⟩
  case round =>
    obtain ⟨k, c, u, us, rfl, hk, hcn, hf, hb, b1, b2, b3⟩ := hrel
    by_cases hlt : k < xs.length
    · have cx := (HV.out.below hb).cell hlt
      have hst : xs.take (k + 1) = xs.take k ++ [nth xs k] := by rw [List.take_succ_eq_append_getElem hlt, nth_lt hlt]
      have hxx := HX.out _ (nth_mem hlt)
      obtain ⟨x, hxe⟩ : ∃ x, nth xs k = x := ⟨_, rfl⟩
      rw [hxe] at cx hst hxx
      obtain ⟨q, T⟩ := c
      have hgd := cn_good hcn
      have HA := Lib.hid (gadd_calls n q x u us T w.heap.size w.heap.size wr hf hgd h2 h6 (by simp only at b1; omega) ⟨by simp only at b2; omega, by simp only at b3; omega⟩ hxx hb.size)
      have HCN := Lib.hid hcn; have HB := Lib.hid hb; have HST := Lib.hid hst; have HXX := Lib.hid hxx; have B1 := Lib.hid b1; have B2 := Lib.hid b2; have B3 := Lib.hid b3
      clear hcn hf hb hst hxx b1 b2 b3 hxe hgd
      go_wp2_with fail
      refine HA.out.mono ?_
      rintro e w1 ⟨c', u', us', ⟨z, rfl⟩, hc', hf', hb'⟩
      have HC := Lib.hid hc'; have HF := Lib.hid hf'; have HBB := Lib.hid (HB.out.trans hb')
      clear hc' hf' hb'
      go_wp2_with fail
      go_roundw
      case rel =>
        have hbd := cn_bounds HC.out
        have hml : (mulS n (q, T) x).2.length = T.length + 1 ∧ q - 1 ≤ (mulS n (q, T) x).1 ∧ (mulS n (q, T) x).1 ≤ q := by
          unfold mulS; split <;> (refine ⟨by simp, ?_, ?_⟩ <;> simp only <;> omega)
        have e1 := B1.out; have e2 := B2.out; have e3 := B3.out
        refine ⟨k + 1, c', u', us', by go_num, by omega, ?_, HF.out, HBB.out, by omega, by omega, by omega⟩
        rw [HST.out, mulW_append]
        exact cn_next (by omega) h2 HXX.out HCN.out HC.out
      case measure => simp [intOf]; omega
    · obtain rfl : k = xs.length := by omega
      rw [List.take_of_length_le (Nat.le_refl _)] at hcn
      have HCN := Lib.hid hcn; have HF := Lib.hid hf; have HB := Lib.hid hb
      clear hcn hf hb b1 b2 b3
      go_wp2_with fail
      go_ret
      exact ⟨c, u, us, rfl, HCN.out, HF.out, HB.out⟩

end Go.Proofs.Ytnmklkjlcpgjmaa


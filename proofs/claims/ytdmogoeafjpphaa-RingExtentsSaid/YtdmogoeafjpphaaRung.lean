/- ringing: written, text, Text; the fact rung. -/
import Derived.Test.YtdmogoeafjpphaaRing
import Derived.Test.YtdmogoeafjpphaaBuilder
namespace Go.Proofs.Ytdmogoeafjpphaa
open Go.RowKit Go.Sl

def wrAt (q k : Nat) : Bool := !q.testBit k && (decide (k = 0) || !q.testBit (k - 1))
/-- The positions at which a bell stays, as they are written. -/
def wrL (q : Nat) : Nat → List UInt8
  | 0 => []
  | k + 1 => if wrAt q k then wrL q k ++ [UInt8.ofNat (49 + k)] else wrL q k
def writtenL (q n : Nat) : List UInt8 := if wrL q n = [] then [120] else wrL q n
theorem wrL_length (q k : Nat) : (wrL q k).length ≤ k := by
  induction k with
  | zero => simp [wrL]
  | succ k ih =>
    rw [wrL]
    split
    · simp; omega
    · omega

theorem run_digit (w : World) (k : Nat) (hk : k < 7) : (convert 174 9 (.slice (some ⟨w.heap.size, 0, none⟩) 1 1)).run Try.prog (w.alloc (.cells #[.int .u8 (49 + (k : Int))] 5)) = .ok (.string ⟨[UInt8.ofNat (49 + k)].toArray⟩) (w.alloc (.cells #[.int .u8 (49 + (k : Int))] 5)) := by
  refine run_convert_bytes_back _ 174 9 5 ⟨w.heap.size, 0, none⟩ 1 [UInt8.ofNat (49 + k)] Try.underlying174 Try.underlying5 Try.underlying9 fun j hj => ?_
  have hj' : j < 1 := hj
  obtain rfl : j = 0 := by omega
  have e : (UInt8.ofNat (49 + k)).toNat = 49 + k := by simp; omega
  simp only [List.getElem_cons_zero, e]
  simp [go_sem, Addr.add]

set_option maxRecDepth 100000 in
set_option maxHeartbeats 2000000 in
theorem written_calls (m q : Nat) (w : World) (hm : m < 7) (hq : q < 64) :
    Calls Try.prog 165 #[.int .i64 ((m : Int) + 1), .int .i64 q] w fun e w' => e = .returned (.string ⟨(writtenL q (m + 1)).toArray⟩) ∧ Below w.heap.size w w' := by
  go_enter Try.func165, Try.ntmps165
  go_wp2_with fail
  go_loopw [5, 8] (fun s i wr => ∃ k : Nat, k ≤ m + 1 ∧ i = .int .i64 k ∧ s = .string ⟨(wrL q k).toArray⟩ ∧ Below w.heap.size w wr) (fun _ i _ => m + 1 - (intOf i).toNat)
  case atStart => exact ⟨0, Nat.zero_le _, rfl, rfl, Below.refl _ _⟩
  case round =>
    obtain ⟨k, hk, rfl, rfl, hbr⟩ := hrel
    by_cases hlt : (k : Int) < (m : Int) + 1
    · have hk7 : k < 7 := by omega
      have hand := and_bit ⟨q, hq⟩ ⟨k, hk7⟩
      simp only at hand
      have hbs := hbr.size
      have HBR := Lib.hid hbr; clear hbr
      by_cases hb : q.testBit k = true
      · have hstep : wrL q (k + 1) = wrL q k := by rw [wrL, if_neg (by simp [wrAt, hb])]
        rw [if_pos hb] at hand
        have HST := Lib.hid hstep; clear hstep hb
        go_wp2_with fail
        go_roundw
        case rel => exact ⟨k + 1, by omega, by go_num, by rw [HST.out], HBR.out⟩
        case measure => simp [intOf]; omega
      · rw [if_neg hb] at hand
        obtain ⟨S, hS⟩ : ∃ S, S = wrL q k := ⟨_, rfl⟩
        have hsl := wrL_length q k
        rw [← hS] at hsl ⊢
        have hconv := run_digit wr k hk7
        have hwu : IntKind.u8.wrap (49 + (k : Int)) = 49 + (k : Int) := IntWalk.u8_in _ (by omega)
        rcases Nat.eq_zero_or_pos k with h0 | h0
        · subst h0
          have hstep : wrL q (0 + 1) = S ++ [49] := by rw [wrL, if_pos (by simp [wrAt, hb]), hS]; rfl
          have hand' : bits .and .i64 (q : Int) 1 = 0 := by simpa using hand
          have hsum' : ∀ w : World, (Op.stringOp .add ⟨S.toArray⟩ ⟨#[49]⟩).run Try.prog w = .ok (.string ⟨(S ++ [49]).toArray⟩) w := fun w => run_string_add_lists w S [49] (by omega) (by simp)
          have hconv' : (convert 174 9 (.slice (some ⟨wr.heap.size, 0, none⟩) 1 1)).run Try.prog (wr.alloc (.cells #[.int .u8 49] 5)) = .ok (.string ⟨#[49]⟩) (wr.alloc (.cells #[.int .u8 49] 5)) := run_digit wr 0 (by omega)
          have HST := Lib.hid hstep; have HS := Lib.hid hS; clear hstep hb hS hconv hand hwu
          go_wp2_with fail
          refine ⟨⟨1, by omega, by go_num, by rw [HST.out], HBR.out.alloc hbs _⟩, by simp [intOf]⟩
        · obtain ⟨j, rfl⟩ : ∃ j, k = j + 1 := ⟨k - 1, by omega⟩
          have hand2 := and_bit ⟨q, hq⟩ ⟨j, by omega⟩
          simp only at hand2
          have hji : (((j + 1 : Nat) : Int)) - 1 = (j : Int) := by omega
          have hj0 : ¬ ((j + 1 : Nat) : Int) = 0 := by omega
          by_cases hb2 : q.testBit j = true
          · have hstep : wrL q (j + 1 + 1) = S := by rw [wrL, if_neg (by simp [wrAt, hb, hb2]), hS]
            rw [if_pos hb2] at hand2
            have HST := Lib.hid hstep; have HS := Lib.hid hS; clear hstep hb hb2 hS hconv hwu
            obtain ⟨k, hkk⟩ : ∃ k, j + 1 = k := ⟨_, rfl⟩
            rw [hkk] at hand hji hj0 hlt hk ⊢
            have hk7' : k < 7 := by omega
            rw [hkk] at HST
            clear hkk
            go_wp2_with fail
            refine ⟨⟨k + 1, by omega, by go_num, by rw [HST.out], HBR.out⟩, by simp [intOf]; omega⟩
          · have hstep : wrL q (j + 1 + 1) = S ++ [UInt8.ofNat (49 + (j + 1))] := by rw [wrL, if_pos (by simp [wrAt, hb, hb2]), hS]
            rw [if_neg hb2] at hand2
            have HST := Lib.hid hstep; have HS := Lib.hid hS; clear hstep hb hb2 hS
            obtain ⟨k, hkk⟩ : ∃ k, j + 1 = k := ⟨_, rfl⟩
            rw [hkk] at hand hji hj0 hlt hk hconv hwu HST ⊢
            have hk7' : k < 7 := by omega
            obtain ⟨d, hd⟩ : ∃ d, UInt8.ofNat (49 + k) = d := ⟨_, rfl⟩
            rw [hd] at hconv HST
            have hsum : ∀ w : World, (Op.stringOp .add ⟨S.toArray⟩ ⟨#[d]⟩).run Try.prog w = .ok (.string ⟨(S ++ [d]).toArray⟩) w := fun w => run_string_add_lists w S [d] (by omega) (by simp)
            have hconv2 : (convert 174 9 (.slice (some ⟨wr.heap.size, 0, none⟩) 1 1)).run Try.prog (wr.alloc (.cells #[.int .u8 (49 + (k : Int))] 5)) = .ok (.string ⟨#[d]⟩) (wr.alloc (.cells #[.int .u8 (49 + (k : Int))] 5)) := hconv
            clear hkk hd hconv
            go_wp2_with fail
            refine ⟨⟨k + 1, by omega, by go_num, by rw [HST.out], HBR.out.alloc hbs _⟩, by simp [intOf]; omega⟩
    · obtain rfl : k = m + 1 := by omega
      obtain ⟨T, hT⟩ : ∃ T, wrL q (m + 1) = T := ⟨_, rfl⟩
      rw [hT]
      have hw : writtenL q (m + 1) = if T = [] then [120] else T := by unfold writtenL; rw [hT]
      have HW := Lib.hid hw; have HBR := Lib.hid hbr; clear hw hT hbr
      cases T with
      | nil =>
        go_wp2_with fail
        go_ret
        exact ⟨by rw [HW.out]; rfl, HBR.out⟩
      | cons a T =>
        go_wp2_with fail
        go_ret
        exact ⟨by rw [HW.out]; rfl, HBR.out⟩

theorem writtenL_length (q n : Nat) : (writtenL q n).length ≤ n + 1 := by
  unfold writtenL
  have := wrL_length q n
  split
  · simp
  · omega
/-- The text of the first k changes, and what was written last. -/
def txtTo (n : Nat) (cs : List Int) : Nat → List UInt8 × List UInt8
  | 0 => ([], [120])
  | k + 1 => ((txtTo n cs k).1 ++ (if writtenL (nth cs k).toNat n ≠ [120] ∧ (txtTo n cs k).2 ≠ [120] then [46] else []) ++ writtenL (nth cs k).toNat n, writtenL (nth cs k).toNat n)
def textL (n : Nat) (cs : List Int) : List UInt8 := (txtTo n cs cs.length).1
theorem txtTo_length (n : Nat) (cs : List Int) (k : Nat) : (txtTo n cs k).1.length ≤ k * (n + 2) := by
  induction k with
  | zero => simp [txtTo]
  | succ k ih =>
    have h := writtenL_length (nth cs k).toNat n
    have e : (k + 1) * (n + 2) = k * (n + 2) + n + 2 := by rw [Nat.add_mul]; omega
    rw [txtTo, e]
    simp only [List.length_append]
    split <;> simp <;> omega
theorem bytes_eq (a b : List UInt8) : ((ByteArray.mk a.toArray).toList == (ByteArray.mk b.toArray).toList) = decide (a = b) := by
  rw [ByteArray.toList_mk, ByteArray.toList_mk]
  by_cases h : a = b
  · subst h; simp
  · rw [decide_eq_false h]
    simpa using h
theorem builderAt_below {T e : TypeId} {B b : Nat} {p : Value} {bs : List Value} {w w' : World} (h : Lib.BuilderAt T e B b p bs w) (hb : Below w.heap.size w w') : Lib.BuilderAt T e B b p bs w' := by
  have hlt := h.lt
  obtain ⟨hB, v, hv, ⟨h1, h2⟩, hne⟩ := h
  refine ⟨hB, v, (hb.block b hlt).trans hv, ⟨h1, ?_⟩, hne⟩
  rcases h2 with h0 | ⟨g, cap, cur, hvv, hg, hh, r⟩
  · exact .inl h0
  · exact .inr ⟨g, cap, cur, hvv, hg, (hb.block g (Array.getElem?_eq_some_iff.1 hh).1).trans hh, r⟩
theorem isBuilder_below {T e : TypeId} {B b : Nat} {bs : List Value} {w w' : World} (h : Lib.IsBuilder T e B b bs w) (hb : Below w.heap.size w w') : Lib.IsBuilder T e B b bs w' :=
  h.imp (fun h => builderAt_below h hb) (fun h => builderAt_below h hb)
abbrev IsB (B b : Nat) (l : List UInt8) (w : World) : Prop := Lib.IsBuilder 176 5 B b (Lib.byteCells l) w
theorem writeB_calls (B b : Nat) (l s : List UInt8) (w : World) (h : IsB B b l w) (hlen : l.length + s.length ≤ 1000000) (hBw : B ≤ w.heap.size) :
    Calls Try.prog 166 #[.pointer (some ⟨b, 0, none⟩), .string ⟨s.toArray⟩] w fun e w' => (∃ v, e = .returned (.tuple #[v, .nilIface])) ∧ IsB B b (l ++ s) w' ∧ Below B w w' := by
  refine (writeString_calls B b _ ⟨s.toArray⟩ w h (by rw [Lib.byteCells_length]; simp [ByteArray.size]; omega) hBw).mono ?_
  rintro e w' ⟨rfl, h', hb⟩
  refine ⟨⟨_, rfl⟩, .inr ?_, hb⟩
  rw [Lib.byteCells_append]
  exact h'

set_option maxRecDepth 100000 in
set_option maxHeartbeats 2000000 in
theorem text_calls (m : Nat) (v : Value) (cs : List Int) (w : World) (hv : Ints w v cs) (hm : m < 7) (hc : ∀ c ∈ cs, Chg m c) (hl : cs.length ≤ 5040) :
    Calls Try.prog 152 #[.int .i64 ((m : Int) + 1), v] w fun e w' => e = .returned (.string ⟨(textL (m + 1) cs).toArray⟩) ∧ Below w.heap.size w w' := by
  have sv := hv.isSl
  have lv := hv.len
  have htl : textL (m + 1) cs = (txtTo (m + 1) cs cs.length).1 := rfl
  obtain ⟨L, hL⟩ : ∃ L, cs.length = L := ⟨_, rfl⟩
  rw [hL] at lv hl htl
  have HV := Lib.hid hv; have HL := Lib.hid hL; have HC := Lib.hid hc; have HT := Lib.hid htl
  clear hv hL hc htl
  go_enter Try.func152, Try.ntmps152
  go_wp2_with fail
  have hB0 : IsB w.heap.size w.heap.size [] (w.alloc (.cells #[.pointer none, .slice none 0 0] 176)) := Lib.fresh_isBuilder _ _ w
  have HB0 := Lib.hid hB0; clear hB0
  go_loopw [6, 12] (fun s i wr => ∃ k : Nat, k ≤ L ∧ i = .int .i64 k ∧ s = .string ⟨(txtTo (m + 1) cs k).2.toArray⟩ ∧ IsB w.heap.size w.heap.size (txtTo (m + 1) cs k).1 wr ∧ Below w.heap.size w wr) (fun _ i _ => L - (intOf i).toNat)
  case atStart => exact ⟨0, Nat.zero_le _, rfl, rfl, HB0.out, (Below.refl _ _).alloc (Nat.le_refl _) _⟩
  case round =>
    obtain ⟨k, hk, rfl, rfl, hbd, hbr⟩ := hrel
    have hbs := hbr.size
    by_cases hlt : k < L
    · have hkc : k < cs.length := by rw [HL.out]; exact hlt
      have cx := (HV.out.below hbr).cell hkc
      obtain ⟨q, hq, hq1, hq2, hq3⟩ := HC.out _ (nth_mem hkc)
      rw [hq] at cx
      have hstep : txtTo (m + 1) cs (k + 1) = ((txtTo (m + 1) cs k).1 ++ (if writtenL q (m + 1) ≠ [120] ∧ (txtTo (m + 1) cs k).2 ≠ [120] then [46] else []) ++ writtenL q (m + 1), writtenL q (m + 1)) := by
        rw [txtTo, hq, Int.toNat_natCast]
      have htlen := txtTo_length (m + 1) cs k
      have hwlen := writtenL_length q (m + 1)
      have hkm : k * (m + 1 + 2) ≤ 5040 * 9 := Nat.mul_le_mul (by omega) (by omega)
      obtain ⟨T, hT⟩ : ∃ T, (txtTo (m + 1) cs k).1 = T := ⟨_, rfl⟩
      obtain ⟨P, hP⟩ : ∃ P, (txtTo (m + 1) cs k).2 = P := ⟨_, rfl⟩
      obtain ⟨S, hS⟩ : ∃ S, writtenL q (m + 1) = S := ⟨_, rfl⟩
      rw [hT] at hbd hstep htlen
      rw [hP] at hstep ⊢
      rw [hS] at hstep hwlen
      have HBD := Lib.hid hbd; have HBR := Lib.hid hbr; have HST := Lib.hid hstep; have HS := Lib.hid hS
      clear hbd hbr hstep hq hq1 hq3 hT hP hS
      go_wp2_with fail
      refine (written_calls m q _ hm hq2).mono ?_
      rintro e w2 ⟨rfl, hb2⟩
      rw [HS.out]
      have hb02 := Below.chain HBR.out hb2
      have hbd2 := isBuilder_below HBD.out hb2
      have hbs2 := hb02.size
      have HB02 := Lib.hid hb02; have HBD2 := Lib.hid hbd2
      clear hb2 hb02 hbd2
      have e1 := bytes_eq S [120]
      have e2 := bytes_eq P [120]
      have hTS : T.length + S.length ≤ 1000000 := by omega
      have hT1 : T.length + 1 ≤ 1000000 := by omega
      by_cases hs : S ≠ [120] ∧ P ≠ [120]
      · rw [if_pos hs] at HST
        obtain ⟨hs1, hs2⟩ := hs
        rw [decide_eq_false hs1] at e1
        rw [decide_eq_false hs2] at e2
        have HS1 := Lib.hid hs1; have HS2 := Lib.hid hs2; clear hs1 hs2
        have E1 : ((ByteArray.mk S.toArray).toList == (ByteArray.mk #[120]).toList) = false := e1
        have E2 : ((ByteArray.mk P.toArray).toList == (ByteArray.mk #[120]).toList) = false := e2
        simp only [ByteArray.toList_mk] at E1 E2
        clear e1 e2
        go_wp2_with fail
        refine (writeB_calls w.heap.size w.heap.size T [46] _ HBD2.out (by simp; omega) hbs2).mono ?_
        rintro e w3 ⟨⟨v3, rfl⟩, hbd3, hb3⟩
        have HB03 := Lib.hid (Below.trans HB02.out hb3); have HBD3 := Lib.hid hbd3
        have hbs3 := HB03.out.size
        clear hb3 hbd3
        go_wp2_with fail
        refine (writeB_calls w.heap.size w.heap.size (T ++ [46]) S _ HBD3.out (by simp; omega) hbs3).mono ?_
        rintro e w4 ⟨⟨v4, rfl⟩, hbd4, hb4⟩
        have HB04 := Lib.hid (Below.trans HB03.out hb4); have HBD4 := Lib.hid hbd4
        clear hb4 hbd4
        go_wp2_with fail
        refine ⟨⟨k + 1, by omega, by go_num, by rw [HST.out], by rw [HST.out]; exact HBD4.out, HB04.out⟩, by simp [intOf]; omega⟩
      · rw [if_neg hs, List.append_nil] at HST
        by_cases hs1 : S = [120]
        · rw [decide_eq_true hs1] at e1
          have E1 : ((ByteArray.mk S.toArray).toList == (ByteArray.mk #[120]).toList) = true := e1
          simp only [ByteArray.toList_mk] at E1
          have HS1 := Lib.hid hs1
          have HHS := Lib.hid hs
          clear e1 e2 hs hs1
          go_wp2_with fail
          refine (writeB_calls w.heap.size w.heap.size T S _ HBD2.out hTS hbs2).mono ?_
          rintro e w4 ⟨⟨v4, rfl⟩, hbd4, hb4⟩
          have HB04 := Lib.hid (Below.trans HB02.out hb4); have HBD4 := Lib.hid hbd4
          clear hb4 hbd4
          go_wp2_with fail
          refine ⟨⟨k + 1, by omega, by go_num, by rw [HST.out], by rw [HST.out]; exact HBD4.out, HB04.out⟩, by simp [intOf]; omega⟩
        · have hs2 : P = [120] := Classical.byContradiction fun h => hs ⟨hs1, h⟩
          rw [decide_eq_false hs1] at e1
          rw [decide_eq_true hs2] at e2
          have E1 : ((ByteArray.mk S.toArray).toList == (ByteArray.mk #[120]).toList) = false := e1
          have E2 : ((ByteArray.mk P.toArray).toList == (ByteArray.mk #[120]).toList) = true := e2
          simp only [ByteArray.toList_mk] at E1 E2
          have HS1 := Lib.hid hs1; have HS2 := Lib.hid hs2; have HHS := Lib.hid hs
          clear e1 e2 hs hs1 hs2
          go_wp2_with fail
          refine (writeB_calls w.heap.size w.heap.size T S _ HBD2.out hTS hbs2).mono ?_
          rintro e w4 ⟨⟨v4, rfl⟩, hbd4, hb4⟩
          have HB04 := Lib.hid (Below.trans HB02.out hb4); have HBD4 := Lib.hid hbd4
          clear hb4 hbd4
          go_wp2_with fail
          refine ⟨⟨k + 1, by omega, by go_num, by rw [HST.out], by rw [HST.out]; exact HBD4.out, HB04.out⟩, by simp [intOf]; omega⟩
    · have hk' : k = L := by omega
      subst hk'
      have HBD := Lib.hid hbd; have HBR := Lib.hid hbr; clear hbd hbr
      go_wp2_with fail
      refine (builderString_calls w.heap.size w.heap.size _ _ HBD.out hbs).mono ?_
      rintro e w2 ⟨rfl, hb2⟩
      have HB2 := Lib.hid (Below.trans HBR.out hb2); clear hb2
      rw [← HT.out]
      go_wp2_with fail
      go_ret
      exact ⟨rfl, HB2.out⟩

set_option maxRecDepth 100000 in
theorem ringText_calls (m : Nat) (v : Value) (cs : List Int) (w : World) (hv : Ints w v cs) (hm : m < 7) (hc : ∀ c ∈ cs, Chg m c) (hl : cs.length ≤ 5040) :
    Calls Try.prog 116 #[.int .i64 ((m : Int) + 1), v] w fun e w' => e = .returned (.tuple #[.string ⟨(textL (m + 1) cs).toArray⟩, .int .i64 0]) ∧ Below w.heap.size w w' := by
  have sv := hv.isSl
  have HV := Lib.hid hv; have HC := Lib.hid hc; have HL := Lib.hid hl
  clear hv hc hl
  go_enter Try.func116, Try.ntmps116
  go_wp2_with fail
  refine (rcheck_calls m v cs _ HV.out hm HC.out HL.out).mono ?_
  rintro e w1 ⟨rfl, hb1⟩
  have HB1 := Lib.hid hb1; clear hb1
  go_wp2_with fail
  refine (text_calls m v cs _ (HV.out.below HB1.out) hm HC.out HL.out).mono ?_
  rintro e w2 ⟨rfl, hb2⟩
  have HB2 := Lib.hid hb2; clear hb2
  go_wp2_with fail
  go_ret2
  exact ⟨rfl, Below.chain HB1.out HB2.out⟩

set_option maxRecDepth 100000 in
theorem rung_calls (w : World) : Calls Try.prog 56 #[] w fun e w' => e = .returned (.bool true) ∧ Below w.heap.size w w' := by
  go_enter Try.func56, Try.ntmps56
  go_wp2_with fail
  have h3 : textL (3 + 1) [5, 2] = [120, 49, 52] := by decide
  have hr : ∀ c ∈ ([5, 2] : List Int), Chg 3 c := by
    intro c hc
    simp only [List.mem_cons, List.not_mem_nil, or_false] at hc
    rcases hc with rfl | rfl
    · exact ⟨5, rfl, by decide, by decide, by decide⟩
    · exact ⟨2, rfl, by decide, by decide, by decide⟩
  have ht := ringText_calls 3 _ [5, 2] _ (ints_lit (w := w) [5, 2] rfl rfl rfl (by simp)) (by omega) hr (by simp)
  rw [h3] at ht
  refine ht.mono ?_
  rintro e w2 ⟨rfl, hb2⟩
  have HB2 := Lib.hid (Below.chain ((Below.refl _ _).alloc (Nat.le_refl _) _) hb2); clear hb2 ht
  go_wp2_with fail
  go_ret
  exact ⟨rfl, HB2.out⟩
end Go.Proofs.Ytdmogoeafjpphaa

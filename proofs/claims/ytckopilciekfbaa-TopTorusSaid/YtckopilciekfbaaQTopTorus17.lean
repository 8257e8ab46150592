/- slices.Repeat of a slice of ints, walked. -/
import Derived.Test.YtckopilciekfbaaQTopTorus0
import Derived.Test.YtckopilciekfbaaQTopTorus1
import Derived.Test.YtckopilciekfbaaQTopTorus2
import Derived.Test.YtckopilciekfbaaQTopTorus9
import Derived.Shelf.Bits.Mul64
namespace Go.Proofs.Ytckopilciekfbaa
open Go.Shelf Go.RowKit Go.Sl

def renM : Go.Shelf.Ren := ⟨fun | 212 => 72 | 263 => 109 | 264 => 110 | n => n, fun | 46 => 83 | 51 => 115 | 146 => 116 | 53 => 118 | 148 => 119 | n => n, fun | n => n⟩
theorem laysM : Go.Proofs.Lays.n212 Try.prog renM := {
  mixed := by kernel_rfl
  f212 := Try.func72.trans (congrArg some (by kernel_rfl))
  f263 := Try.func109.trans (congrArg some (by kernel_rfl))
  f264 := Try.func110.trans (congrArg some (by kernel_rfl))
  t46 := Try.underlying83
  a46 := Try.isAgg83
  z46 := Try.sizeOf83
  v46 := Try.zeroValue83
  t51 := Try.underlying115
  a51 := Try.isAgg115
  z51 := Try.sizeOf115
  v51 := Try.zeroValue115
  t53 := Try.underlying118
  a53 := Try.isAgg118
  z53 := Try.sizeOf118
  v53 := Try.zeroValue118
  t146 := Try.underlying116
  a146 := Try.isAgg116
  z146 := Try.sizeOf116
  v146 := Try.zeroValue116
  t148 := Try.underlying119
  a148 := Try.isAgg119
  z148 := Try.sizeOf119
  v148 := Try.zeroValue119 }
theorem mulSmall_calls (x y N : Nat) (hN : x * y = N) (hx : x ≤ 1000000) (hy : y ≤ 1000000) (hn : N ≤ 1000000) (w : World) :
    Calls Try.prog 72 #[.int .u64 x, .int .u64 y] w fun e w' => e = .returned (.tuple #[.int .u64 0, .int .u64 N]) ∧ w = w' := by
  refine (Any.bits_Mul laysM x y (by omega) (by omega) w).mono ?_
  rintro e w' ⟨rfl, rfl⟩
  rw [hN, Nat.div_eq_of_lt (by omega), Nat.mod_eq_of_lt (by omega)]
  exact ⟨rfl, rfl⟩

/-- The first j places hold the word again and again. -/
def Again (xs : List Int) (N j : Nat) (zs : List Int) : Prop := zs.length = N ∧ ∀ t, t < j → nth zs t = nth xs (t % xs.length)
theorem Again.copy {xs zs : List Int} {N j k : Nat} (h : Again xs N j zs) (hj : j < N) (hd : xs.length ∣ j) (hk : k = min j (N - j)) : Again xs N (j + k) (zs.take j ++ (zs.take j).take k ++ zs.drop (j + k)) := by
  obtain ⟨hl, hz⟩ := h
  have hkj : k ≤ j := by omega
  refine ⟨by simp; omega, fun t ht => ?_⟩
  have hget : nth (zs.take j ++ (zs.take j).take k ++ zs.drop (j + k)) t = if t < j then nth zs t else nth zs (t - j) := by
    unfold nth
    rw [List.getD_eq_getElem?_getD, List.getD_eq_getElem?_getD, List.getD_eq_getElem?_getD]
    rw [List.append_assoc, List.getElem?_append, List.getElem?_append]
    simp only [List.length_take, Nat.min_eq_left (show j ≤ zs.length by omega)]
    by_cases h1 : t < j
    · rw [if_pos h1, if_pos h1, List.getElem?_take, if_pos h1]
    · rw [if_neg h1, if_neg h1, if_pos (by omega), List.getElem?_take, if_pos (by omega), List.getElem?_take, if_pos (by omega)]
  rw [hget]
  by_cases h1 : t < j
  · rw [if_pos h1]; exact hz t h1
  · rw [if_neg h1, hz (t - j) (by omega)]
    obtain ⟨q, rfl⟩ := hd
    congr 1
    obtain ⟨s, rfl⟩ : ∃ s, t = xs.length * q + s := ⟨t - xs.length * q, by omega⟩
    rw [Nat.add_sub_cancel_left, Nat.mul_add_mod]
theorem rep_len (xs : List Int) (c : Nat) : (List.replicate c xs).flatten.length = xs.length * c := by
  induction c with
  | zero => simp
  | succ c ih => rw [List.replicate_succ, List.flatten_cons, List.length_append, ih, Nat.mul_succ]; omega
theorem nth_rep' (xs : List Int) (c : Nat) : ∀ t, t < xs.length * c → nth (List.replicate c xs).flatten t = nth xs (t % xs.length) := by
  induction c with
  | zero => intro t ht; simp at ht
  | succ c ih =>
    intro t ht
    rw [List.replicate_succ, List.flatten_cons]
    by_cases h : t < xs.length
    · rw [Nat.mod_eq_of_lt h]
      unfold nth
      rw [List.getD_eq_getElem?_getD, List.getD_eq_getElem?_getD, List.getElem?_append_left h]
    · have : nth (xs ++ (List.replicate c xs).flatten) t = nth (List.replicate c xs).flatten (t - xs.length) := by
        unfold nth
        rw [List.getD_eq_getElem?_getD, List.getD_eq_getElem?_getD, List.getElem?_append_right (by omega)]
      rw [this, ih (t - xs.length) (by rw [Nat.mul_succ] at ht; omega)]
      congr 1
      exact (Nat.mod_eq_sub_mod (by omega)).symm
theorem Again.done {xs zs : List Int} {c : Nat} (h : Again xs (xs.length * c) (xs.length * c) zs) : zs = (List.replicate c xs).flatten := by
  refine List.ext_getElem (by rw [h.1, rep_len]) fun t h1 h2 => ?_
  have e1 := h.2 t (by rw [← h.1]; exact h1)
  have e2 := nth_rep' xs c t (by rw [← h.1]; exact h1)
  rw [nth_lt h1] at e1
  rw [nth_lt h2] at e2
  rw [e1, e2]

set_option maxRecDepth 100000 in
set_option maxHeartbeats 2000000 in
theorem repeat_calls (v : Value) (xs : List Int) (c : Nat) (w : World) (hv : Ints w v xs) (hc : 1 ≤ c) (hc2 : c ≤ 5040) (hl : xs.length ≤ 5040) (hN : xs.length * c ≤ 5040) :
    Calls Try.prog 28 #[v, .int .i64 c] w fun e w' => ∃ u, e = .returned u ∧ OwnI w' w.heap.size u (List.replicate c xs).flatten ∧ Below w.heap.size w w' := by
  have sv := hv.isSl
  have lv := hv.len
  obtain ⟨L, hL⟩ : ∃ L, xs.length = L := ⟨_, rfl⟩
  obtain ⟨N, hNN⟩ : ∃ N, L * c = N := ⟨_, rfl⟩
  rw [hL] at lv hl hN
  rw [hNN] at hN
  have hLN : L ≤ N := by rw [← hNN]; exact Nat.le_mul_of_pos_right L (by omega)
  have HV := Lib.hid hv; have HL := Lib.hid hL; have HNN := Lib.hid hNN
  have HAD : Hid (∀ zs, Again xs N N zs → zs = (List.replicate c xs).flatten) := Lib.hid (fun zs h => by
    rw [← hNN, ← hL] at h
    exact h.done)
  clear hv hL hNN
  have hcn : ¬ (c : Int) < 0 := by omega
  have hwL : IntKind.u64.wrap (L : Int) = (L : Int) := IntWalk.u64_in _ (by omega)
  have hwc : IntKind.u64.wrap (c : Int) = (c : Int) := IntWalk.u64_in _ (by omega)
  have hwN : IntKind.i64.wrap (N : Int) = (N : Int) := IntWalk.i64_in _ (by omega)
  have hNm : ¬ (N : Int) > 9223372036854775807 := by omega
  go_enter Try.func28, Try.ntmps28
  go_wp2_with fail
  refine (mulSmall_calls L c N HNN.out (by omega) (by omega) (by omega) _).mono ?_
  rintro e w' ⟨rfl, rfl⟩
  go_wp2_with (at_make; refine wpList_make rfl _ _ rfl _ _ N rfl rfl rfl rfl (by omega) ?_; intro out w1 ho1 hg1 hlo hsz; have so := ho1.isSl; have hb1 : Below w.heap.size w w1 := Below_of_grown (Below.refl _ _) hg1 (Nat.le_refl _) (by intro k hk; cases hk); obtain ⟨w2, hrun, ho2, hb2⟩ := run_copyI (dv := out) (j := 0) (k := L) ho1 (HV.out.below hb1) so (by rw [hlo]; simp) (Nat.zero_le _) (by rw [HL.out]; simp; omega) (fun _ => rfl); have HO2 := Lib.hid ho2; have HB2 := Lib.hid (Below.trans hb1 hb2); clear ho1 hb1 hg1 ho2 hb2)
  have hag : Again xs N L ((List.replicate N (0 : Int)).take 0 ++ xs.take L ++ (List.replicate N (0 : Int)).drop (0 + L)) := by
    have e : (List.replicate N (0 : Int)).take 0 ++ xs.take L ++ (List.replicate N (0 : Int)).drop (0 + L) = xs ++ List.replicate (N - L) 0 := by
      rw [List.take_zero, List.nil_append, Nat.zero_add, List.take_of_length_le (by rw [HL.out]; exact Nat.le_refl _), List.drop_replicate]
    rw [e]
    refine ⟨by simp [HL.out]; omega, fun t ht => ?_⟩
    have hx : t < xs.length := by rw [HL.out]; exact ht
    rw [Nat.mod_eq_of_lt hx]
    unfold nth
    rw [List.getD_eq_getElem?_getD, List.getD_eq_getElem?_getD, List.getElem?_append_left hx]
  have HAG := Lib.hid hag; clear hag
  go_loopw [8] (fun i wr => ∃ (j : Nat) (zs : List Int), j ≤ N ∧ i = .int .i64 j ∧ OwnI wr w.heap.size out zs ∧ Again xs N j zs ∧ (j = N ∨ L ∣ j) ∧ (0 < j ∨ N = 0) ∧ Below w.heap.size w wr) (fun i _ => N - (intOf i).toNat)
  case atStart => exact ⟨L, _, hLN, rfl, HO2.out, HAG.out, .inr (Nat.dvd_refl _), by rcases Nat.eq_zero_or_pos L with h | h; exact .inr (by rw [← HNN.out, h, Nat.zero_mul]); exact .inl h, HB2.out⟩
  case round =>
    obtain ⟨j, zs, hj, rfl, ho, ha, hd, hp, hbr⟩ := hrel
    by_cases hlt : j < N
    · have hj0 : 0 < j := by omega
      have hdv : xs.length ∣ j := by rw [HL.out]; rcases hd with h | h; omega; exact h
      have hzl := ha.1
      have lo2 := ho.len
      rw [hzl] at lo2
      have hcap := ho.ints.cap
      rw [hzl] at hcap
      obtain ⟨k, hk⟩ : ∃ k, k = min j (N - j) := ⟨_, rfl⟩
      have hk1 : 1 ≤ k := by omega
      have hk2 : j + k ≤ N := by omega
      replace ho := ho.below (Below.refl _ wr).drew
      replace hbr := hbr.drew
      have hsrc : Ints wr.drew (vcut out 0 j (vcap out) 1) (zs.take j) := by
        have := ho.ints.cut (l := 0) (r := j) (m := vcap out) (by omega) (by omega) (by omega) (by omega)
        simpa using this
      have hdl : IsSl (vcut out j N (vcap out) 1) := isSl_cut so (by omega) (by omega) (Nat.le_refl _)
      obtain ⟨w3, hrun3, ho3, hb3⟩ := run_copyI (dv := vcut out j N (vcap out) 1) (j := j) (k := k) ho hsrc hdl (by rw [vlen_cut, hzl]) (by omega) (by rw [hzl, List.length_take]; omega) (fun _ => by rw [vat_cut so _ (by omega) (Nat.le_refl _)]; congr 1; omega)
      have hag3 := ha.copy hlt hdv hk
      have hdd : j + k = N ∨ L ∣ j + k := by
        rw [← HL.out]
        by_cases h : k = j
        · subst h; exact .inr (Nat.dvd_add hdv hdv)
        · exact .inl (by omega)
      have hjk : IntKind.i64.wrap ((j : Int) + k) = (j : Int) + k := IntWalk.i64_in _ (by omega)
      have HO3 := Lib.hid ho3; have HAG3 := Lib.hid hag3; have HB3 := Lib.hid (Below.trans hbr hb3); have HDD := Lib.hid hdd; have HK := Lib.hid hk
      clear ho ha hd hp hbr ho3 hag3 hb3 hsrc hdl hdd hdv hk
      go_wp2_with fail
      go_region
      go_wp2_with fail
      exact ⟨⟨j + k, _, hk2, by go_num, HO3.out, HAG3.out, HDD.out, .inl (by omega), HB3.out⟩, by simp [intOf]; omega⟩
    · obtain rfl : j = N := by omega
      have he := HAD.out zs ha
      rw [he] at ho
      have HO := Lib.hid ho; have HBR := Lib.hid hbr; clear ho ha hd hp hbr he
      go_wp2_with fail
      go_ret
      exact ⟨_, rfl, HO.out, HBR.out⟩
end Go.Proofs.Ytckopilciekfbaa


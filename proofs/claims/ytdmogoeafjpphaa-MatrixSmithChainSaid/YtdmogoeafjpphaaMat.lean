/- Matrices of ints: timbmake.Matrix and package intmatrix, walked. -/
import Derived.Test.YtdmogoeafjpphaaGrid
import Derived.Test.YtdmogoeafjpphaaPerm
namespace Go.Proofs.Ytdmogoeafjpphaa
open Go.RowKit Go.Sl

def ent (zs : List Int) (b k : Nat) : Int := if k < zs.length then nth zs k % (2 * (b : Int) + 1) - b else 0
def rowL (zs : List Int) (b cols k0 : Nat) : List Int := (List.range cols).map fun j => ent zs b (k0 + j)
def matL (n cols : Nat) (zs : List Int) (b : Nat) : List (List Int) := (List.range n).map fun i => rowL zs b cols (i * cols)
theorem rowL_length (zs : List Int) (b cols k0 : Nat) : (rowL zs b cols k0).length = cols := by simp [rowL]
theorem nth_rowL (zs : List Int) (b cols k0 j : Nat) (h : j < cols) : nth (rowL zs b cols k0) j = ent zs b (k0 + j) := by
  rw [nth_lt (by rw [rowL_length]; exact h)]; simp [rowL]
theorem matL_length (n cols : Nat) (zs : List Int) (b : Nat) : (matL n cols zs b).length = n := by simp [matL]
theorem matL_succ (n cols : Nat) (zs : List Int) (b : Nat) : matL (n + 1) cols zs b = matL n cols zs b ++ [rowL zs b cols (n * cols)] := by simp [matL, List.range_succ]
theorem ent_bounds (zs : List Int) (b k : Nat) : -(b : Int) ≤ ent zs b k ∧ ent zs b k ≤ b := by
  unfold ent
  split
  · have h1 := Int.emod_nonneg (nth zs k) (b := 2 * (b : Int) + 1) (by omega)
    have h2 := Int.emod_lt_of_pos (nth zs k) (b := 2 * (b : Int) + 1) (by omega)
    omega
  · omega

set_option maxRecDepth 100000 in
theorem matrix_calls (n cols b : Nat) (raw : Value) (zs : List Int) (w : World) (hr : Ints w raw zs) (hn : n ≤ 6) (hc : cols ≤ 6) (hb : b ≤ 1000) (hz : ∀ z ∈ zs, I64 z) :
    Calls Try.prog 57 #[.int .i64 n, .int .i64 cols, raw, .int .i64 b] w fun e w' => ∃ v, e = .returned v ∧ OwnR.apart w' w.heap.size v (matL n cols zs b) ∧ Below w.heap.size w w' := by
  have sr := hr.isSl
  have lr := hr.len
  have i63 := sr.i63
  rw [lr] at i63
  have HR := Lib.hid hr; clear hr
  have HZ := Lib.hid hz; clear hz
  go_enter Try.func57, Try.ntmps57
  go_wp2_with fail
  go_loopw [9, 10, 14] (fun m k i wr => ∃ q kk : Nat, q ≤ n ∧ i = .int .i64 q ∧ k = .int .i64 kk ∧ kk = q * cols ∧ kk ≤ 6 * q ∧ OwnR.apart wr w.heap.size m (matL q cols zs b) ∧ Below w.heap.size w wr) (fun _ _ i _ => n - (intOf i).toNat)
  case atStart => exact ⟨0, 0, Nat.zero_le _, rfl, rfl, by omega, by omega, ownRA_nil _ _, Below.refl _ _⟩
  case round =>
    obtain ⟨q, kk, hq, rfl, rfl, hkk, hk6, hm, hbr⟩ := hrel
    have HKK := Lib.hid hkk; clear hkk
    have HM := Lib.hid hm; clear hm
    have HBR := Lib.hid hbr; clear hbr
    obtain ⟨W, hW⟩ : ∃ W : World, W = wr := ⟨_, rfl⟩
    subst hW
    by_cases hqn : q < n
    · go_wp2_with (at_make; refine wpList_make rfl _ _ rfl _ _ cols rfl rfl rfl rfl (by omega) ?_; intro out w1 ho1 hg1 hlo hsz; have so := ho1.isSl)
      have hb1 : Below W.heap.size W w1 := Below_of_grown (Below.refl _ _) hg1 (Nat.le_refl _) (by intro k hk; cases hk)
      have HO := Lib.hid ho1; clear ho1 hg1 hsz
      have HB1 := Lib.hid hb1; clear hb1
      go_loopw [10, 20] (fun k j wx => ∃ p kp : Nat, p ≤ cols ∧ j = .int .i64 p ∧ k = .int .i64 kp ∧ kp = kk + p ∧ OwnI wx W.heap.size out (fill (rowL zs b cols kk) p) ∧ Below W.heap.size W wx) (fun _ j _ => cols - (intOf j).toNat)
      case atStart => exact ⟨0, kk, Nat.zero_le _, rfl, rfl, by omega, by rw [fill_zero, rowL_length]; exact HO.out, HB1.out⟩
      case round =>
        obtain ⟨p, kp, hp, rfl, rfl, hkp, ho, hbx⟩ := hrel
        by_cases hpc : p < cols
        · have hlf : (fill (rowL zs b cols kk) p).length = cols := by rw [fill_length _ _ (by rw [rowL_length]; exact hp), rowL_length]
          have c3 := ho.cell (k := p) (by omega)
          have f3 := ho.frozen (k := p) (by omega)
          have hset := ho.set (k := p) (by omega) (ent zs b kp)
          have hbs := hbx.setCell (ho.ge (k := p) (by omega)) (.int .i64 (ent zs b kp))
          have hnext := fill_set (rowL zs b cols kk) p (by rw [rowL_length]; exact hpc)
          rw [nth_rowL _ _ _ _ _ hpc, ← hkp] at hnext
          rw [hnext] at hset
          have hsame : fill (rowL zs b cols kk) (p + 1) = fill (rowL zs b cols kk) (p + 1) := rfl
          have hkp6 : kp ≤ 100 := by omega
          have HKP := Lib.hid hkp; clear hkp
          by_cases hkz : kp < zs.length
          · have c1 := (HR.out.below (HBR.out.trans (hbx.mono HBR.out.size))).cell hkz
            have he : ent zs b kp = nth zs kp % (2 * (b : Int) + 1) - b := by unfold ent; rw [if_pos hkz]
            have h1 := Int.emod_nonneg (nth zs kp) (b := 2 * (b : Int) + 1) (by omega)
            have h2 := Int.emod_lt_of_pos (nth zs kp) (b := 2 * (b : Int) + 1) (by omega)
            rw [he] at hset hbs
            have HS1 := Lib.hid hset; clear hset
            have HS2 := Lib.hid hbs; clear hbs
            clear hnext hlf ho hbx he hsame
            go_wp2_with (go_at_call 16; refine (below_calls _ _ _ (by omega) (by omega) (HZ.out _ (nth_mem hkz))).mono ?_; rintro e w' ⟨rfl, rfl⟩)
            go_roundw
            case rel => exact ⟨p + 1, kp + 1, by omega, by go_num, by go_num, by have := HKP.out; omega, HS1.out, HS2.out⟩
            case measure => simp [intOf]; omega
          · have he : ent zs b kp = 0 := by unfold ent; rw [if_neg hkz]
            have hfz : fill (rowL zs b cols kk) (p + 1) = fill (rowL zs b cols kk) p := by
              rw [← hnext, he]
              apply ext_nth (by simp)
              intro j hj
              by_cases hjp : p = j
              · subst hjp
                rw [nth_set_same _ (by omega)]
                simp [nth, fill, List.getElem?_append, rowL_length]
                have : ¬ p < min p cols := by omega
                simp [this]
                rw [List.getElem?_replicate]; split <;> rfl
              · rw [nth_set_other _ hjp]
            have HS1 := Lib.hid ho; clear ho
            have HS2 := Lib.hid hbx; clear hbx
            have HFZ := Lib.hid hfz; clear hfz
            clear hset hbs hnext he hsame hlf c3 f3
            go_wp2_with fail
            go_roundw
            case rel => exact ⟨p + 1, kp + 1, by omega, by go_num, by go_num, by have := HKP.out; omega, by rw [HFZ.out]; exact HS1.out, HS2.out⟩
            case measure => simp [intOf]; omega
        · have hpe : p = cols := by omega
          have ho' : OwnI wr W.heap.size out (rowL zs b cols kk) := by
            rw [hpe] at ho
            have := fill_all (rowL zs b cols kk)
            rw [rowL_length] at this
            rw [← this]; exact ho
          have hmx := HM.out.below hbx
          have hap : 0 < (rowL zs b cols kk).length → row u9 ≠ some (vblk out) := by
            intro h0 e
            have h1 := ho'.ge h0
            have h2 := HM.out.own.lt _ e
            rw [vat_block] at h1
            omega
          have hbz := hbx.size
          have HPE := Lib.hid hpe; clear hpe
          have HAP := Lib.hid hap; clear hap
          have hml : (matL q cols zs b).length ≤ 6 := by rw [matL_length]; omega
          have hsz := HBR.out.size
          have HKP := Lib.hid hkp; clear hkp
          clear ho
          go_wp2_with (first
            | (refine wpList_rows1 rfl (.tmp 44) rfl rfl so ?_)
            | (at_builtin; refine wpList_pushRow (v := u9) rfl _ _ rfl rfl rfl hmx ho'.ints (by omega) (by omega) HAP.out ?_; intro m2 w2 hm2 hg2 hr2))
          have hb2 : Below w.heap.size w w2 := Below_of_grown (HBR.out.trans (hbx.mono hsz)) hg2 (by omega) (fun k hk => (HM.out.own.lt k hk).1)
          go_roundw
          case rel => exact ⟨q + 1, kp, by omega, by go_num, rfl, by have := HPE.out; have := HKK.out; have := HKP.out; rw [Nat.succ_mul]; omega, by have := HPE.out; have := HKP.out; omega, by rw [matL_succ, ← HKK.out]; exact hm2, hb2⟩
          case measure => simp [intOf]; omega
    · have hqe : q = n := by omega
      have HQE := Lib.hid hqe; clear hqe
      go_wp2_with fail
      go_ret
      exact ⟨u9, rfl, by rw [← HQE.out]; exact HM.out, HBR.out⟩

end Go.Proofs.Ytdmogoeafjpphaa

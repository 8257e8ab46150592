/- timbkeep1.turn and slices.Clone of rows, walked. -/
import Derived.Test.YtbopcejelddooaaTurnLaw
import Derived.Lib.LazyBuf
namespace Go.Proofs.Ytbopcejelddooaa
open Go.RowKit Go.Sl

@[go_sem ↓ high] theorem run_store_sl {P : Program} (w : World) {v : Value} {a : Addr} (hv : IsSl v) (hc : (w.cell? a).isSome = true) (hf : w.frozen? a = false) :
    (store a v).run P w = .ok () (w.setCell a v) := by
  obtain ⟨ad, n, c, rfl, -⟩ := hv.cases
  obtain ⟨u, hu⟩ := Option.isSome_iff_exists.1 hc
  simp [store, Sem.run, hu, hf]

set_option maxRecDepth 100000 in
theorem turn_calls (v : Value) (xss : List (List Int)) (n c : Nat) (w : World) (hv : Rows2 w v xss) (hm : IsMat xss n c) (h0 : 0 < n) :
    Calls Try.prog 22 #[v] w fun e w' => ∃ u, e = .returned u ∧ OwnR.apart w' w.heap.size u (turnL xss n c) ∧ Below w.heap.size w w' := by
  obtain ⟨vs, hv⟩ := hv
  have sv := hv.isSl
  have lv := hv.len
  rw [hm.rows] at lv
  have hn6 := hm.hn
  have hc6 := hm.hc
  have c0 := hv.cell (i := 0) (by rw [hm.rows]; exact h0)
  have r0 := hv.row (i := 0) (by rw [hm.rows]; exact h0)
  have s0 := r0.isSl
  have l0 := r0.len
  rw [hm.cols 0 h0] at l0
  have HV := Lib.hid hv; have HM := Lib.hid hm; clear hv hm r0
  have htl : (turnL xss n c).length = c := turnL_length _ _ _
  have HTL := Lib.hid htl; clear htl
  go_enter Try.func22, Try.ntmps22
  go_wp2_with fail
  clear c0
  go_loopw [3, 12] (fun t i wr => ∃ q : Nat, q ≤ c ∧ i = .int .i64 q ∧ OwnR.apart wr w.heap.size t ((turnL xss n c).take q) ∧ Below w.heap.size w wr) (fun _ i _ => c - (intOf i).toNat)
  case atStart => exact ⟨0, Nat.zero_le _, rfl, ownRA_nil _ _, Below.refl _ _⟩
  case round =>
    obtain ⟨q, hq, rfl, ht, hbr⟩ := hrel
    obtain ⟨W, hW⟩ : ∃ W : World, W = wr := ⟨_, rfl⟩
    subst hW
    by_cases hqc : q < c
    · have HT := Lib.hid ht; clear ht
      have hbs := hbr.size
      have HBR := Lib.hid hbr; clear hbr
      obtain ⟨RW, hRW⟩ : ∃ RW, RW = (List.range n).map fun i => ent2 xss i q := ⟨_, rfl⟩
      have hrl : RW.length = n := by rw [hRW]; simp
      have hrn : ∀ p, p < n → nth RW p = ent2 xss p q := by intro p hp; rw [nth_lt (by omega)]; simp [hRW]
      have hnr : nthr (turnL xss n c) q = RW := by rw [nthr_turnL _ _ _ _ hqc, hRW]
      have HRL := Lib.hid hrl; have HRN := Lib.hid hrn; have HNR := Lib.hid hnr
      clear hRW hrl hrn hnr
      go_wp2_with fail
      go_loopw [5, 17] (fun r j wx => ∃ p : Nat, p ≤ n ∧ j = .int .i64 p ∧ OwnI wx W.heap.size r (RW.take p) ∧ Below W.heap.size W wx) (fun _ j _ => n - (intOf j).toNat)
      case atStart => exact ⟨0, Nat.zero_le _, rfl, ownI_nil _ _, Below.refl _ _⟩
      case round =>
        obtain ⟨p, hp, rfl, ho, hbx⟩ := hrel
        have hxs := hbx.size
        by_cases hpn : p < n
        · have hbt := HBR.out.trans (hbx.mono hbs)
          have c1 := (HV.out.below hbt).cell (i := p) (by rw [HM.out.rows]; exact hpn)
          have r1 := (HV.out.below hbt).row (i := p) (by rw [HM.out.rows]; exact hpn)
          have s1 := r1.isSl
          have l1 := r1.len
          rw [HM.out.cols p hpn] at l1
          have c2 := r1.cell (k := q) (by rw [HM.out.cols p hpn]; exact hqc)
          have he : nth (nthr xss p) q = ent2 xss p q := rfl
          rw [he] at c2
          have htk := take_succ_nth RW p (by rw [HRL.out]; exact hpn)
          rw [HRN.out p hpn] at htk
          have HTK := Lib.hid htk
          have hol : (RW.take p).length ≤ 6 := by simp; omega
          have HO := Lib.hid ho
          clear r1 he hbt htk
          go_wp2_with (at_builtin; refine wpList_push (v := u5) rfl _ _ rfl rfl rfl ho hxs (by omega) ?_; intro r2 w2 ho2 hg2 hr2)
          have hb2 : Below W.heap.size W w2 := Below_of_grown hbx hg2 hxs (fun k hk => (HO.out.lt k hk).1)
          go_roundw
          case rel => exact ⟨p + 1, by omega, by go_num, by rw [HTK.out]; exact ho2, hb2⟩
          case measure => simp [intOf]; omega
        · have hpe : p = n := by omega
          have ho' : OwnI wr W.heap.size u5 RW := by
            rw [List.take_of_length_le (by rw [HRL.out]; omega)] at ho; exact ho
          have htx := HT.out.below hbx
          have hap : 0 < RW.length → row u3 ≠ some (vblk u5) := by
            intro h0 e
            have h1 := ho'.ge h0
            have h2 := HT.out.own.lt _ e
            rw [vat_block] at h1
            omega
          have s5 := ho'.isSl
          have HAP := Lib.hid hap; clear hap hpe
          have hml : ((turnL xss n c).take q).length ≤ 6 := by simp; omega
          clear ho
          go_wp2_with (first
            | (refine wpList_rows1 rfl (.tmp 30) rfl rfl s5 ?_)
            | (at_builtin; refine wpList_pushRow (v := u3) rfl _ _ rfl rfl rfl htx ho'.ints (by omega) (by omega) HAP.out ?_; intro m2 w2 hm2 hg2 hr2))
          have hb2 : Below w.heap.size w w2 := Below_of_grown (HBR.out.trans (hbx.mono hbs)) hg2 (by omega) (fun k hk => (HT.out.own.lt k hk).1)
          go_roundw
          case rel => exact ⟨q + 1, by omega, by go_num, by rw [take_succ_nthr _ _ (by rw [HTL.out]; exact hqc), HNR.out]; exact hm2, hb2⟩
          case measure => simp [intOf]; omega
    · have ht' : OwnR.apart W w.heap.size u3 (turnL xss n c) := by
        rw [List.take_of_length_le (by rw [HTL.out]; omega)] at ht; exact ht
      have HBR := Lib.hid hbr; clear hbr ht
      go_wp2_with fail
      go_ret
      exact ⟨u3, rfl, ht', HBR.out⟩

set_option maxRecDepth 100000 in
theorem cloneRows_calls (v : Value) (vs : List Value) (xss : List (List Int)) (w : World) (hv : RowsV w v vs xss) (h0 : 0 < xss.length) (hl : xss.length ≤ 1000) :
    Calls Try.prog 24 #[v] w fun e w' => ∃ u, e = .returned u ∧ Own w' w.heap.size 22 1 u vs ∧ Below w.heap.size w w' := by
  have sv := hv.isSl
  have lv := hv.len
  have hvl := hv.2.1
  have hrows : ∀ i, i < vs.length → (nthv vs i).oneCell' = true := fun i hi => oneCell'_sl (hv.2.2 i (by omega)).1
  have hone : ∀ u ∈ vs, u.oneCell' = true := by
    intro u hu
    obtain ⟨i, hi, rfl⟩ := List.getElem_of_mem hu
    have := hrows i hi
    rwa [nthv_lt hi] at this
  have hnil : ∀ wx, (binOp .eql 24 v (.slice none 0 0)).run Try.prog wx = .ok (.bool false) wx := by
    intro wx
    obtain ⟨a, n, c, rfl, hn, hc, ha⟩ := sv.cases
    simp only [vlen_mk] at lv
    obtain ⟨b, o, rfl⟩ := ha (by omega)
    rw [Lib.run_eql_slice_nil wx 24 22 _ n c 0 0 Try.underlying24]; rfl
  have hguard : ∀ wx, (eqGuard .eql 24 (.tmp 3) (.const (.slice none 0 0)) v (.slice none 0 0)).run Try.prog wx = .ok () wx := by
    intro wx
    obtain ⟨a, n, c, rfl, hn, hc, ha⟩ := sv.cases
    simp [eqGuard]
  obtain ⟨i, hi, hz0, hz1, hz2⟩ := info_parts info_slice
  have HS := Lib.hid hv.1
  have HV := Lib.hid hvl
  clear hv hvl hrows
  have hle : vlen v ≤ 1000 := by omega
  have HL := Lib.hid lv; clear lv
  go_enter Try.func24, Try.ntmps24
  have he : Own (w.alloc (.cells #[] 22)) w.heap.size 22 1 (.slice (some ⟨w.heap.size, 0, none⟩) 0 0) [] := ⟨isSl_mk _ _ _ _ (Nat.le_refl _) (Nat.zero_le _), by simp, fun h => absurd h (by simp)⟩
  have HE := Lib.hid he; clear he
  go_wp2_with (at_builtin; refine wpList_append_sl (v := .slice (some ⟨w.heap.size, 0, none⟩) 0 0) (y := v) rfl _ _ _ rfl w.heap.size 22 i _ 1 24 Try.underlying24 hi hz0 hz1 hz2 rfl (by decide) rfl rfl HE.out (HS.out.alloc _) hone (by simp only [vlen_mk, maxLen]; omega) (by simp only [vlen_mk]; omega) (by simp) ?_; intro o2 z2 ho2 hg2 hr2)
  go_ret
  exact ⟨o2, rfl, by simpa using ho2, ((Below.refl _ _).alloc (Nat.le_refl _) _).grown hg2 (by simp) (fun k hk => by simp [row] at hk)⟩

end Go.Proofs.Ytbopcejelddooaa

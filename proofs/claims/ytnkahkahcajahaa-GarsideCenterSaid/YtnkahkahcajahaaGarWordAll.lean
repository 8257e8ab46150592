/- garside.word, Check, Word walked; what the word of a normal form comes to. -/
import Derived.Test.YtnkahkahcajahaaGarForms
import Derived.Test.YtnkahkahcajahaaGarInv
namespace Go.Proofs.Ytnkahkahcajahaa
open Go.RowKit Go.Sl

/-- The factors of a word of positive letters. -/
def sgs (n : Nat) (ws : List Int) : List (List Int) := ws.map fun x => sgP n (x.natAbs - 1)
theorem mulW_pos {n : Nat} (ws : List Int) (h : ∀ x ∈ ws, 1 ≤ x) : ∀ s : St, mulW n s ws = (s.1, s.2 ++ sgs n ws) := by
  induction ws with
  | nil => intro s; simp [mulW, sgs]
  | cons x ws ih =>
    intro s
    have hx := h x (by simp)
    rw [show mulW n s (x :: ws) = mulW n (mulS n s x) ws from rfl, ih (fun y hy => h y (by simp [hy]))]
    unfold mulS
    rw [if_pos (by omega)]
    simp [sgs]
theorem sgs_good {n : Nat} (hn : n ≤ 1000) {ws : List Int} (h : ∀ x ∈ ws, 1 ≤ x ∧ x < n) : Good n (sgs n ws) := fun a ha => by
  obtain ⟨x, hx, rfl⟩ := List.mem_map.1 ha
  have := h x hx
  exact pn_sg hn (by omega)
theorem sg_then {n i : Nat} {a : List Int} (ha : Pn n a) (hi : i + 1 < n) : thenL (sgP n i) (swapAt a i) = a := by
  unfold sgP
  have hn : n ≤ 1000 := by rw [← ha.len]; exact ha.perm.small
  rw [thenL_swap (pn_iota hn) ha hi, iota_then ha]
theorem sg_step {n i : Nat} (hn : n ≤ 1000) {a : List Int} (ha : Pn n a) (hi : i + 1 < n) (hd : dn a i) : Reach n [sgP n i, swapAt a i] [a, iota n] := by
  have h1 := inv_dn ha hi hd
  have := rp hn (pn_sg hn hi) (swapAt a i) (ha.swapAt hi) (by rw [sg_then ha hi, inv_sg hn hi]; omega)
  rwa [sg_then ha hi] at this
/-- The word and what is left of the permutation come to it. -/
def WordsTo (n : Nat) (xs ws zs : List Int) : Prop := Pn n zs ∧ (∀ x ∈ ws, 1 ≤ x ∧ x < n) ∧ ws.length + inv zs = inv xs ∧ ∀ (k : Int) (F : List (List Int)), Good n F → Eqv n (k, F ++ sgs n ws ++ [zs]) (k, F ++ [xs])
theorem wordsTo_start {n : Nat} {xs : List Int} (h : Pn n xs) : WordsTo n xs [] xs := ⟨h, by simp, by simp, fun k F _ => by simp [sgs]; exact .refl _⟩
theorem wordsTo_step {n i : Nat} (hn : n ≤ 1000) {xs ws zs : List Int} (h : WordsTo n xs ws zs) (hi : i + 1 < n) (hd : dn zs i) : WordsTo n xs (ws ++ [(i : Int) + 1]) (swapAt zs i) := by
  obtain ⟨h1, h2, h3, h4⟩ := h
  have hw : ∀ x ∈ ws ++ [(i : Int) + 1], 1 ≤ x ∧ x < n := fun x hx => by
    rcases List.mem_append.1 hx with hx | hx
    · exact h2 x hx
    · simp at hx; omega
  refine ⟨h1.swapAt hi, hw, by have := inv_dn h1 hi hd; simp; omega, fun k F g => ?_⟩
  refine .trans ?_ (h4 k F g)
  have gw := sgs_good hn h2
  have e : F ++ sgs n (ws ++ [(i : Int) + 1]) ++ [swapAt zs i] = (F ++ sgs n ws) ++ [sgP n i, swapAt zs i] := by
    simp [sgs]; congr 1
  rw [e]
  have r := (sg_step hn h1 hi hd).pre (F ++ sgs n ws)
  refine .trans (eqv_reach k r ((g.app gw).app (.cons (pn_sg hn hi) (.cons (h1.swapAt hi) (good_nil n))))) ?_
  rw [show (F ++ sgs n ws) ++ [zs, iota n] = (F ++ sgs n ws ++ [zs]) ++ [iota n] by simp]
  exact .trail k ((g.app gw).app (good_one hn h1))
/-- What a word of a permutation is. -/
def IsWordOf (n : Nat) (xs ws : List Int) : Prop := (∀ x ∈ ws, 1 ≤ x ∧ x < n) ∧ ws.length = inv xs ∧ ∀ s : St, Good n s.2 → Eqv n (mulW n s ws) (s.1, s.2 ++ [xs])
theorem wordsTo_end {n : Nat} (hn : n ≤ 1000) {xs ws zs : List Int} (h : WordsTo n xs ws zs) (hno : ∀ i, i + 1 < n → ¬ dn zs i) : IsWordOf n xs ws := by
  obtain ⟨h1, h2, h3, h4⟩ := h
  have hz : zs = iota n := by
    have hb : backL zs = iota n := iota_of h1.back fun i hi => by
      unfold up
      rw [back_back h1]
      have h5 := hno i hi
      unfold dn at h5
      have h6 : nth zs i ≠ nth zs (i + 1) := fun e => by
        have := h1.perm.inj (i := i) (j := i + 1) (by rw [h1.len]; omega) (by rw [h1.len]; exact hi) e
        omega
      omega
    have := back_back h1
    rw [hb] at this
    rw [← this]
    refine ext_nth (by rw [backL_length]) fun q hq => ?_
    rw [backL_length, iota_length] at hq
    rw [back_iota hn hq, nth_iota _ _ hq]
  subst hz
  rw [inv_iota] at h3
  refine ⟨h2, by omega, fun s g => ?_⟩
  rw [mulW_pos ws (fun x hx => (h2 x hx).1)]
  exact .trans (.symm (.trail s.1 (g.app (sgs_good hn h2)))) (h4 s.1 s.2 g)

set_option maxRecDepth 100000 in
set_option maxHeartbeats 4000000 in
theorem gword_calls (n : Nat) (v : Value) (xs : List Int) (w : World) (hv : Ints w v xs) (hx : Pn n xs) (h2 : 2 ≤ n) (h6 : n ≤ 6) (hinv : inv xs ≤ 1000) :
    Calls Try.prog 113 #[v] w fun e w' => ∃ u ws, e = .returned u ∧ OwnI w' w.heap.size u ws ∧ IsWordOf n xs ws ∧ Below w.heap.size w w' := by
  have sv := hv.isSl
  have lv := hv.len
  rw [hx.len] at lv
  have HV := Lib.hid hv; have HX := Lib.hid hx; have HIN := Lib.hid hinv
  clear hv hx hinv
  go_enter Try.func113, Try.ntmps113
  go_wp2_with fail
  refine (clone_calls v xs _ HV.out (by rw [HX.out.len]; omega)).mono ?_
  rintro e w1 ⟨p, rfl, hp, hb1⟩
  have sp := hp.isSl
  have lp := hp.len
  rw [HX.out.len] at lp
  have HP := Lib.hid hp; have HB1 := Lib.hid hb1
  clear hp hb1
  go_wp2_with fail
  go_loopw [3, 4] (fun o iv wr => ∃ (i : Nat) (ws zs : List Int), iv = .int .i64 i ∧ i + 1 ≤ n ∧ WordsTo n xs ws zs ∧ (∀ j, j < i → ¬ dn zs j) ∧ OwnI wr w.heap.size o ws ∧ OwnI wr w.heap.size p zs ∧ (Go.Sl.row o ≠ some (vblk p)) ∧ Below w.heap.size w wr) (fun _ iv wr => inv (readI wr p n) * 7 + (6 - (intOf iv).toNat))
  case atStart => exact ⟨0, [], xs, rfl, by omega, wordsTo_start HX.out, fun j hj => by omega, ownI_nil _ _, HP.out, by simp, HB1.out⟩
  case round =>
    obtain ⟨i, ws, zs, rfl, hi, hw, hno, ho, hp, hne, hb⟩ := hrel
    have hPz := hw.1
    have hrd : readI wr p n = zs := by have := readI_of hp.ints; rwa [hPz.len] at this
    have hlw : ws.length ≤ 1000 := by have := hw.2.2.1; have := HIN.out; omega
    have so := ho.isSl
    have HRD := Lib.hid hrd; have HW := Lib.hid hw; have HNO := Lib.hid hno; have HO := Lib.hid ho; have HPP := Lib.hid hp; have HNE := Lib.hid hne; have HB := Lib.hid hb; have HPZ := Lib.hid hPz; have HLW := Lib.hid hlw
    clear hrd hw hno hne hb hPz hlw
    by_cases hlt : i + 1 < n
    · have hlt' : (i : Int) + 1 < (n : Int) := by omega
      have w1i : IntKind.i64.wrap ((i : Int) + 1) = (i : Int) + 1 := IntWalk.i64_in _ ⟨by omega, by omega⟩
      have hin : (i : Int) < (n : Int) := by omega
      have hia : ((i : Int) + 1).toNat = i + 1 := by omega
      have hiz : i < zs.length := by rw [HPZ.out.len]; omega
      have hjz : i + 1 < zs.length := by rw [HPZ.out.len]; exact hlt
      have c1 := hp.cell hiz; have c2 := hp.cell hjz
      obtain ⟨x, hx⟩ : ∃ x, nth zs i = x := ⟨_, rfl⟩
      obtain ⟨y, hy⟩ : ∃ y, nth zs (i + 1) = y := ⟨_, rfl⟩
      rw [hx] at c1
      rw [hy] at c2
      have hdn : dn zs i ↔ y < x := by unfold dn; rw [hx, hy]
      have HX1 := Lib.hid hx; have HY1 := Lib.hid hy
      clear hx hy
      have hpr : Go.Sl.row p = some (vblk p) := row_some (by have := hp.ints.cap; omega)
      have hpl := (hp.lt _ hpr).2
      have HPR := Lib.hid hpr; have HPL := Lib.hid hpl
      clear ho hp hpr hpl
      by_cases hd : y < x
      · have HDN := Lib.hid (hdn.2 hd)
        clear hdn
        rename World => W1
        have hbs : w.heap.size ≤ W1.drew.heap.size := HB.out.size
        have HOD := Lib.hid (HO.out.below (Below.refl _ _).drew)
        go_wp2_with fail
        go_region
        go_wp2_with (at_builtin; refine wpList_push (v := u3) rfl _ _ rfl rfl rfl HOD.out hbs (Nat.le_trans HLW.out (by omega)) ?_; intro o2 w2 ho2 hg2 hr2; have so2 := ho2.isSl)
        have hpp := HPP.out.below (Below.refl _ _).drew
        have hp2 := hpp.grown hg2 (fun k hk e => HNE.out (by rw [e, ← hk]; exact HPR.out))
        have hne2 : ∀ k, Go.Sl.row o2 = some k → vblk p ≠ k := fun k hk e => by
          rcases hr2 k hk with g | g
          · exact HNE.out (by rw [g, e])
          · have := HPL.out; have e3 : W1.drew.heap.size = W1.heap.size := rfl; omega
        have hb2 : Below w.heap.size w w2 := Below_of_grown HB.out.drew hg2 hbs (fun b hb => (HO.out.lt b hb).1)
        have hiz' : i < zs.length := by rw [HPZ.out.len]; omega
        have hjz' : i + 1 < zs.length := by rw [HPZ.out.len]; exact hlt
        have c3 := hp2.cell hiz'; have c4 := hp2.cell hjz'
        rw [HX1.out] at c3
        rw [HY1.out] at c4
        have f1 := hp2.frozen hiz'
        have o3 := hp2.set hiz' y
        have f2 := o3.frozen (k := i + 1) (by rw [List.length_set]; exact hjz')
        have e2 := o3.cell (k := i + 1) (by rw [List.length_set]; exact hjz')
        have o4 := o3.set (k := i + 1) (by rw [List.length_set]; exact hjz') x
        have hsw : (zs.set i y).set (i + 1) x = swapAt zs i := by rw [← HX1.out, ← HY1.out]; rfl
        rw [hsw] at o4
        have oo4 := (ho2.setOther (p := vat p i) hne2 (.int .i64 y)).setOther (p := vat p (i + 1)) hne2 (.int .i64 x)
        have hb4 := (hb2.setCell (p := vat p i) (HPP.out.lt _ HPR.out).1 (.int .i64 y)).setCell (p := vat p (i + 1)) (HPP.out.lt _ HPR.out).1 (.int .i64 x)
        have hne4 : Go.Sl.row o2 ≠ some (vblk p) := fun e => hne2 _ e rfl
        have HO4 := Lib.hid o4; have HOO := Lib.hid oo4; have HB4 := Lib.hid hb4; have HNE4 := Lib.hid hne4; have HST := Lib.hid (wordsTo_step (by omega) HW.out hlt HDN.out); have HIV := Lib.hid (inv_dn HPZ.out hlt HDN.out)
        clear hpp hp2 hne2 hb2 o3 o4 oo4 hb4 hne4 hg2 hr2 ho2 hsw
        go_wp2_with fail
        go_region
        go_wp2_with fail
        go_roundw
        case rel => exact ⟨0, _, _, rfl, by omega, HST.out, (fun j hj => by omega), HOO.out.below (Below.refl _ _).drew, HO4.out.below (Below.refl _ _).drew, HNE4.out, HB4.out.drew⟩
        case measure =>
          have h1 := readI_of (HO4.out.below (Below.refl _ _).drew).ints
          rw [HST.out.1.len] at h1
          rw [h1, HRD.out]
          have := HIV.out
          simp [intOf]; omega
      · have HDN := Lib.hid (fun h => hd (hdn.1 h))
        clear hdn
        go_wp2_with fail
        go_region
        go_wp2_with fail
        go_roundw
        case rel =>
          refine ⟨i + 1, ws, zs, by go_num, by omega, HW.out, fun j hj => ?_, HO.out.below (Below.refl _ _).drew, HPP.out.below (Below.refl _ _).drew, HNE.out, HB.out.drew⟩
          rcases Nat.lt_or_ge j i with g | g
          · exact HNO.out j g
          · obtain rfl : j = i := by omega
            exact HDN.out
        case measure =>
          have h1 := readI_of (HPP.out.below (Below.refl _ _).drew).ints
          rw [HPZ.out.len] at h1
          rw [h1, HRD.out]
          simp [intOf]; omega
    · clear ho hp
      have hge : ¬ ((i : Int) + 1 < (n : Int)) := by omega
      go_wp2_with fail
      go_ret
      exact ⟨u3, rfl, ws, HO.out, wordsTo_end (by omega) HW.out (fun j hj => HNO.out j (by omega)), HB.out⟩

section
variable {n : Nat}
theorem IsWordOf.lt {xs ws : List Int} (h : IsWordOf n xs ws) : ∀ x ∈ ws, Lt n x := fun x hx => by
  have := h.1 x hx
  unfold Lt; omega
theorem twist_up (hn : n ≤ 1000) {tw : List Int} (h : IsWordOf n (hf n) tw) (j : Int) : Eqv n (mulW n (j, []) tw) (j + 1, []) :=
  .trans (h.2.2 (j, []) (good_nil n)) (.half j (good_nil n))
theorem twist_down (hn : n ≤ 1000) {tw : List Int} (h : IsWordOf n (hf n) tw) (j : Int) : Eqv n (mulW n (j, []) (invW tw)) (j - 1, []) := by
  have h1 := twist_up hn h (j - 1)
  rw [show j - 1 + 1 = j by omega] at h1
  exact .trans (eqv_mulW hn (invW tw) (invW_lt h.lt) h1.symm) (mulW_inv hn tw h.lt (good_nil n))
/-- A word written k times. -/
def timesW (k : Nat) (w : List Int) : List Int := (List.replicate k w).flatten
theorem timesW_succ (k : Nat) (w : List Int) : timesW (k + 1) w = timesW k w ++ w := by
  simp [timesW, List.replicate_succ']
theorem timesW_length (k : Nat) (w : List Int) : (timesW k w).length = k * w.length := by
  induction k with
  | zero => simp [timesW]
  | succ k ih => rw [timesW_succ, List.length_append, ih, Nat.succ_mul]
theorem timesW_lt {k : Nat} {w : List Int} (h : ∀ x ∈ w, Lt n x) : ∀ x ∈ timesW k w, Lt n x := fun x hx => by
  obtain ⟨l, hl, hx⟩ := List.mem_flatten.1 hx
  rw [List.eq_of_mem_replicate hl] at hx
  exact h x hx
theorem times_up (hn : n ≤ 1000) {tw : List Int} (h : IsWordOf n (hf n) tw) (k : Nat) : Eqv n (mulW n (0, []) (timesW k tw)) ((k : Int), []) := by
  induction k with
  | zero => simp [timesW, mulW]; exact .refl _
  | succ k ih =>
    rw [timesW_succ, mulW_append]
    refine .trans (eqv_mulW hn tw h.lt ih) ?_
    have := twist_up hn h k
    rwa [show (k : Int) + 1 = ((k + 1 : Nat) : Int) by omega] at this
theorem times_down (hn : n ≤ 1000) {tw : List Int} (h : IsWordOf n (hf n) tw) (k : Nat) : Eqv n (mulW n (0, []) (timesW k (invW tw))) (-(k : Int), []) := by
  induction k with
  | zero => simp [timesW, mulW]; exact .refl _
  | succ k ih =>
    rw [timesW_succ, mulW_append]
    refine .trans (eqv_mulW hn (invW tw) (invW_lt h.lt) ih) ?_
    have := twist_down hn h (-(k : Int))
    rwa [show -(k : Int) - 1 = -((k + 1 : Nat) : Int) by omega] at this
theorem word_next (hn : n ≤ 1000) {ws us xs : List Int} {k : Int} {F : List (List Int)} (g : Good n F) (h : Eqv n (mulW n (0, []) ws) (k, F)) (hu : IsWordOf n xs us) : Eqv n (mulW n (0, []) (ws ++ us)) (k, F ++ [xs]) := by
  rw [mulW_append]
  exact .trans (eqv_mulW hn us hu.lt h) (hu.2.2 (k, F) g)
theorem lt_bword {ws : List Int} (h : ∀ x ∈ ws, Lt n x) : BWord (n : Int) ws := fun x hx => by
  have := h x hx
  unfold Lt at this
  omega
end

theorem loose_no (n : Nat) (a b : Value) (xs ys : List Int) (w : World) (ha : Ints w a xs) (hb : Ints w b ys) (hx : Pn n xs) (hy : Pn n ys) (h1 : 1 ≤ n) (h : ∀ i, i + 1 < n → dn ys i → ¬ up xs i) :
    Calls Try.prog 112 #[a, b] w fun e w' => e = .returned (.int .i64 (-1)) ∧ Below w.heap.size w w' := by
  refine (loose_calls n a b xs ys w ha hb hx hy h1).mono ?_
  rintro e w' ⟨r, rfl, hr, hb⟩
  rcases hr with ⟨rfl, _⟩ | ⟨i, rfl, hi, hd, hu⟩
  · exact ⟨rfl, hb⟩
  · exact absurd hu (h i hi hd)
theorem equal_no (a b : Value) (xs ys : List Int) (w : World) (ha : Ints w a xs) (hb : Ints w b ys) (h : xs ≠ ys) :
    Calls Try.prog 24 #[a, b] w fun e w' => e = .returned (.bool false) ∧ Below w.heap.size w w' :=
  (equal_calls a b xs ys w ha hb).mono fun e w' ⟨h1, h2⟩ => ⟨by rw [h1, decide_eq_false h], h2⟩

theorem tight_at {n : Nat} : ∀ {F : List (List Int)} {j : Nat}, Tight n F → j + 1 < F.length → ∀ i, i + 1 < n → dn (nthr F (j + 1)) i → ¬ up (nthr F j) i
  | a :: b :: F, 0, t, _ => by simpa [nthr] using t.pair
  | a :: b :: F, j + 1, t, h => by
    have := tight_at (F := b :: F) (j := j) t.tl (by simpa using h)
    simpa [nthr] using this
  | [a], _, _, h => by simp at h

set_option maxRecDepth 100000 in
set_option maxHeartbeats 4000000 in
theorem gcheck_calls (n : Nat) (v : Value) (vs : List Value) (F : List (List Int)) (w : World) (h : RowsV w v vs F) (g : Good n F) (h2 : 2 ≤ n) (h6 : n ≤ 6) (hl : F.length ≤ 30) (ht : Tight n F) (nh : hf n ∉ F) (ni : iota n ∉ F) :
    Calls Try.prog 54 #[.int .i64 n, v] w fun e w' => e = .returned (.int .i64 0) ∧ Below w.heap.size w w' := by
  have sv := h.isSl
  have lv := h.len
  obtain ⟨L, hL⟩ : ∃ L, F.length = L := ⟨_, rfl⟩
  rw [hL] at lv hl
  have H := Lib.hid h; have HG := Lib.hid g; have HT := Lib.hid ht; have HNH := Lib.hid nh; have HNI := Lib.hid ni; have HL := Lib.hid hL
  clear h g ht nh ni hL
  have HID := Lib.hid (fun W => identity_calls n W (by omega))
  have HHF := Lib.hid (fun W => half_calls n W (by omega))
  go_enter Try.func54, Try.ntmps54
  go_wp2_with fail
  go_loopw [19] (fun i wr => ∃ k : Nat, i = .int .i64 k ∧ k ≤ L ∧ Below w.heap.size w wr) (fun i _ => L - (intOf i).toNat)
  case atStart => exact ⟨0, rfl, Nat.zero_le _, Below.refl _ _⟩
  case round =>
    obtain ⟨k, rfl, hk, hb⟩ := hrel
    by_cases hlt : k < L
    · have hkF : k < F.length := by rw [HL.out]; exact hlt
      have hR := H.out.below hb
      have k0 := hR.cell hkF
      have r0 := hR.2.2 k hkF
      have s0 := r0.isSl
      have hpn : Pn n (nthr F k) := pn_nthr HG.out hkF
      have l0 := r0.len
      rw [hpn.len] at l0
      have hnh : nthr F k ≠ hf n := fun e => HNH.out (e ▸ nthr_mem hkF)
      have hni : nthr F k ≠ iota n := fun e => HNI.out (e ▸ nthr_mem hkF)
      obtain ⟨q, hq⟩ : ∃ q, nthv vs k = q := ⟨_, rfl⟩
      obtain ⟨ys, hys⟩ : ∃ ys, nthr F k = ys := ⟨_, rfl⟩
      rw [hq] at k0 r0 s0 l0
      rw [hys] at r0 hpn hnh hni
      have HR0 := Lib.hid r0; have HPN := Lib.hid hpn; have HNH2 := Lib.hid hnh; have HNI2 := Lib.hid hni; have HB := Lib.hid hb; have HR := Lib.hid hR; have HQ := Lib.hid hq; have HYS := Lib.hid hys
      clear r0 hpn hnh hni hb hR hq hys
      rename World => W0
      go_wp2_with fail
      refine (check_calls q ys _ HR0.out HPN.out.perm (by rw [HPN.out.len]; omega)).mono ?_
      rintro e w1 ⟨rfl, rfl⟩
      go_wp2_with fail
      refine (HID.out _).mono ?_
      rintro e w1 ⟨o, rfl, ho, hb1⟩
      have so := ho.isSl
      have HO := Lib.hid ho.ints; have HB1 := Lib.hid hb1
      clear ho hb1
      go_wp2_with fail
      refine (equal_no q o ys (iota n) _ (HR0.out.below HB1.out) HO.out HNI2.out).mono ?_
      rintro e w2 ⟨rfl, hb2⟩
      have HB2 := Lib.hid (Below.chain HB1.out hb2); clear hb2
      go_wp2_with fail
      refine (HHF.out _).mono ?_
      rintro e w3 ⟨t, rfl, hh, hb3⟩
      have st := hh.isSl
      have HH := Lib.hid hh.ints; have HB3 := Lib.hid (Below.chain HB2.out hb3)
      clear hh hb3
      go_wp2_with fail
      refine (equal_no q t ys (hf n) _ (HR0.out.below HB3.out) HH.out HNH2.out).mono ?_
      rintro e w4 ⟨rfl, hb4⟩
      have HB4 := Lib.hid (Below.chain HB3.out hb4); clear hb4
      by_cases hk0 : k = 0
      · subst hk0
        go_wp2_with fail
        go_roundw
        case rel => exact ⟨1, by go_num, by omega, Below.chain HB.out HB4.out⟩
        case measure => simp [intOf]; omega
      · obtain ⟨j, rfl⟩ : ∃ j, k = j + 1 := ⟨k - 1, by omega⟩
        have hjF : j < F.length := by rw [HL.out]; omega
        have hR4 := HR.out.below HB4.out
        have k1 := hR4.cell hjF
        have r1 := hR4.2.2 j hjF
        have s1 := r1.isSl
        have hpj : Pn n (nthr F j) := pn_nthr HG.out hjF
        have hti := tight_at HT.out (j := j) (by rw [HL.out]; exact hlt)
        rw [HYS.out] at hti
        have HLO := Lib.hid (loose_no n (nthv vs j) q _ ys w4 r1 (HR0.out.below HB4.out) hpj HPN.out (by omega) hti)
        obtain ⟨z, hz⟩ : ∃ z, nthv vs j = z := ⟨_, rfl⟩
        rw [hz] at k1 s1 HLO
        have wj : IntKind.i64.wrap (((j + 1 : Nat) : Int) - 1) = (j : Int) := by rw [show ((j + 1 : Nat) : Int) - 1 = j by omega]; exact IntWalk.i64_in _ ⟨by omega, by omega⟩
        have wj1 : ((j + 1 : Nat) : Int) - 1 = (j : Int) := by omega
        have wj2 : IntKind.i64.wrap (j : Int) = (j : Int) := IntWalk.i64_in _ ⟨by omega, by omega⟩
        have hj0 : (0 : Int) ≤ (j : Int) := by omega
        have hj1 : (j : Int) < (L : Int) := by omega
        have hj2 : (0 : Int) < (j : Int) + 1 := by omega
        clear r1 hpj hti hz hR4 hjF
        go_wp2_with fail
        refine HLO.out.mono ?_
        rintro e w5 ⟨rfl, hb5⟩
        have HB5 := Lib.hid (Below.chain HB.out (Below.chain HB4.out hb5)); clear hb5
        go_wp2_with fail
        go_roundw
        case rel => exact ⟨j + 2, by go_num, by omega, HB5.out⟩
        case measure => simp [intOf]; omega
    · obtain rfl : k = L := by omega
      have HB := Lib.hid hb; clear hb
      go_wp2_with fail
      go_ret
      exact ⟨rfl, HB.out⟩

theorem inv_le {n : Nat} (hn : n ≤ 6) (h2 : 2 ≤ n) {a : List Int} (h : Pn n a) : inv a ≤ inv (hf n) := by
  obtain ⟨g, _, _, hi⟩ := left_exists (by omega) h
  omega
theorem inv_hf_small {n : Nat} (h6 : n ≤ 6) (h2 : 2 ≤ n) : inv (hf n) ≤ 15 := by
  have : n = 2 ∨ n = 3 ∨ n = 4 ∨ n = 5 ∨ n = 6 := by omega
  rcases this with rfl | rfl | rfl | rfl | rfl <;> decide
theorem tot_take {F : List (List Int)} {k : Nat} (h : k < F.length) : tot (F.take (k + 1)) = tot (F.take k) + inv (nthr F k) := by
  rw [List.take_succ_eq_append_getElem h, tot_append, nthr_lt h]; simp [tot]

set_option maxRecDepth 100000 in
set_option maxHeartbeats 4000000 in
theorem gWord_calls (n : Nat) (k : Int) (v : Value) (vs : List Value) (F : List (List Int)) (w : World) (h : RowsV w v vs F) (g : Good n F) (h2 : 2 ≤ n) (h6 : n ≤ 6) (hl : F.length ≤ 30) (hk : -30 ≤ k ∧ k ≤ 30) (ht : Tight n F) (nh : hf n ∉ F) (ni : iota n ∉ F) :
    Calls Try.prog 55 #[.int .i64 n, .int .i64 k, v] w fun e w' => ∃ u er ws, e = .returned (.tuple #[u, .int .i64 er]) ∧ IsSl u ∧ ws.length = k.natAbs * inv (hf n) + tot F ∧ (∀ x ∈ ws, Lt n x) ∧ Eqv n (mulW n (0, []) ws) (k, F) ∧ (30 < ws.length → er = 2) ∧ (ws.length ≤ 30 → er = 0 ∧ OwnI w' w.heap.size u ws) ∧ Below w.heap.size w w' := by
  have sv := h.isSl
  have lv := h.len
  obtain ⟨L, hL⟩ : ∃ L, F.length = L := ⟨_, rfl⟩
  rw [hL] at lv hl
  have HCH := Lib.hid (gcheck_calls n v vs F w h g h2 h6 (by omega) ht nh ni)
  have HHF := Lib.hid (fun W => half_calls n W (by omega))
  have H := Lib.hid h; have HG := Lib.hid g; have HL := Lib.hid hL
  clear h g ht nh ni hL
  obtain ⟨hk1, hk2⟩ := hk
  go_enter Try.func55, Try.ntmps55
  go_wp2_with fail
  refine HCH.out.mono ?_
  rintro e w1 ⟨rfl, hb1⟩
  have HB1 := Lib.hid hb1; clear hb1
  have hkl : ¬ k < -30 := by omega
  have hkg : ¬ 30 < k := by omega
  go_wp2_with fail
  refine (HHF.out _).mono ?_
  rintro e w2 ⟨t, rfl, hh, hb2⟩
  have HH := Lib.hid hh; have HB2 := Lib.hid (Below.chain HB1.out hb2)
  have st := hh.isSl
  clear hh hb2
  go_wp2_with fail
  refine (gword_calls n t (hf n) _ HH.out.ints (pn_hf (by omega)) h2 h6 (by have := inv_hf_small h6 h2; omega)).mono ?_
  rintro e w3 ⟨tu, tw, rfl, htu, htw, hb3⟩
  have stu := htu.isSl
  have HTU := Lib.hid htu; have HTW := Lib.hid htw; have HB3 := Lib.hid (Below.chain HB2.out hb3)
  clear htu htw hb3
  obtain ⟨K, hK⟩ : ∃ K : Nat, k.natAbs = K := ⟨_, rfl⟩
  by_cases hneg : k < 0
  · have hkK : -k = (K : Int) := by omega
    have wk : IntKind.i64.wrap (-k) = (K : Int) := by rw [hkK]; exact IntWalk.i64_in _ ⟨by omega, by omega⟩
    go_wp2_with fail
    refine (inverted_calls tu tw _ HTU.out.ints (fun x hx => by have := HTW.out.1 x hx; omega) (by have := HTW.out.2.1; have := inv_hf_small h6 h2; omega)).mono ?_
    rintro e w4 ⟨iu, rfl, hiu, hb4⟩
    have siu := hiu.isSl
    have HTWI := hiu.ints
    have HBT := Lib.hid (Below.chain HB3.out hb4)
    have HTLN := Lib.hid (show (invL tw).length = inv (hf n) by rw [invL_len]; exact HTW.out.2.1)
    have HUP := Lib.hid (show ∀ j : Nat, Eqv n (mulW n (0, []) (timesW j (invL tw))) (-(j : Int), []) from fun j => times_down (by omega) HTW.out j)
    have HLTW := Lib.hid (show ∀ x ∈ invL tw, Lt n x from invW_lt HTW.out.lt)
    clear hiu hb4
    have HTI := Lib.hid HTWI
    have hTL : (invL tw).length ≤ 15 := by rw [HTLN.out]; exact inv_hf_small h6 h2
    have HTL := Lib.hid hTL; clear hTL
    go_wp2_with fail
    rename World => W0
    go_loopw [10, 35] (fun o jv wr => ∃ j : Nat, jv = .int .i64 j ∧ j ≤ K ∧ OwnI wr W0.heap.size o (timesW j (invL tw)) ∧ Below W0.heap.size W0 wr) (fun _ jv _ => K - (intOf jv).toNat)
    case atStart => exact ⟨0, rfl, Nat.zero_le _, by simpa [timesW] using ownI_nil _ _, Below.refl _ _⟩
    case round =>
      obtain ⟨j, rfl, hj, ho, hbb⟩ := hrel
      have so := ho.isSl
      by_cases hlt : j < K
      · have hlt' : (j : Int) < (K : Int) := by omega
        have hlen : (timesW j (invL tw)).length + (invL tw).length ≤ 1000000000000 := by
          rw [timesW_length]
          have h1 := Nat.mul_le_mul (show j ≤ 30 by omega) HTL.out
          have := HTL.out
          omega
        have hbs := hbb.size
        have HO := Lib.hid ho; have HBB := Lib.hid hbb; have HLEN := Lib.hid hlen; have HTJ := Lib.hid (HTI.out.below hbb)
        clear ho hbb hlen
        rename World => W1
        go_wp2_with (at_builtin; refine wpList_concat (v := u10) rfl _ _ rfl rfl rfl HO.out HTJ.out hbs HLEN.out ?_; intro o2 w5 ho2 hg2 hr2; have so2 := ho2.isSl)
        have hb6 := Below_of_grown HBB.out hg2 hbs (fun b hb => (HO.out.lt b hb).1)
        rw [← timesW_succ] at ho2
        have HO2 := Lib.hid ho2; have HB6 := Lib.hid hb6
        clear ho2 hb6 hg2 hr2
        go_roundw
        case rel => exact ⟨j + 1, by go_num, by omega, HO2.out, HB6.out⟩
        case measure => simp [intOf]; omega
      · obtain rfl : j = K := by omega
        have HO := Lib.hid ho; have HBB := Lib.hid hbb
        clear ho hbb
        go_wp2_with fail
        go_loopw [10, 43] (fun o jv wr => ∃ (i : Nat) (ws : List Int), jv = .int .i64 i ∧ i ≤ L ∧ OwnI wr W0.heap.size o ws ∧ ws.length = j * inv (hf n) + tot (F.take i) ∧ ws.length ≤ 450 + 15 * i ∧ (∀ x ∈ ws, Lt n x) ∧ Eqv n (mulW n (0, []) ws) (-(j : Int), F.take i) ∧ Below W0.heap.size W0 wr) (fun _ jv _ => L - (intOf jv).toNat)
        case atStart =>
          refine ⟨0, _, rfl, Nat.zero_le _, HO.out, by rw [timesW_length, HTLN.out]; simp [tot], ?_, timesW_lt HLTW.out, by simpa using HUP.out j, HBB.out⟩
          rw [timesW_length]
          have h1 := Nat.mul_le_mul (show j ≤ 30 by omega) HTL.out
          omega
        case round =>
          obtain ⟨i, ws, rfl, hi, ho, hw1, hw2, hw3, hw4, hbb⟩ := hrel
          have so := ho.isSl
          have lo := ho.len
          by_cases hlt : i < L
          · have hiF : i < F.length := by rw [HL.out]; exact hlt
            have hbw := Below.chain HBT.out hbb
            have hR := H.out.below hbw
            have k0 := hR.cell hiF
            have r0 := hR.2.2 i hiF
            have s0 := r0.isSl
            have hpn : Pn n (nthr F i) := pn_nthr HG.out hiF
            have htk : F.take (i + 1) = F.take i ++ [nthr F i] := by rw [List.take_succ_eq_append_getElem hiF, nthr_lt hiF]
            have htt := tot_take hiF
            have hle := inv_le h6 h2 hpn
            have h15 := inv_hf_small h6 h2
            obtain ⟨q, hq⟩ : ∃ q, nthv vs i = q := ⟨_, rfl⟩
            rw [hq] at k0 r0 s0
            have HGW := Lib.hid (gword_calls n q _ _ r0 hpn h2 h6 (by omega))
            have hbs := hbb.size
            have HO3 := Lib.hid ho; have HB3' := Lib.hid hbb; have HW1 := Lib.hid hw1; have HW2 := Lib.hid hw2; have HW3 := Lib.hid hw3; have HW4 := Lib.hid hw4; have HTK := Lib.hid htk; have HTT := Lib.hid htt; have HLE := Lib.hid hle; have H15 := Lib.hid h15
            have HGF := Lib.hid (show Good n (F.take i) from fun x hx => HG.out x (List.mem_of_mem_take hx))
            clear ho hbb hw1 hw2 hw3 hw4 htk htt hle h15 hpn r0 hR hbw hq hiF lo
            rename World => W1
            go_wp2_with fail
            refine HGW.out.mono ?_
            rintro e w5 ⟨z, us, rfl, hz, hus, hb5⟩
            have sz := hz.isSl
            have HZ := Lib.hid hz.ints; have HUS := Lib.hid hus; have HB5 := Lib.hid (Below.chain HB3'.out hb5); have HO5 := Lib.hid (HO3.out.below hb5)
            have HLEN := Lib.hid (show ws.length + us.length ≤ 1000000000000 by have := hus.2.1; have := HW2.out; have := HLE.out; have := H15.out; omega)
            clear hz hus hb5
            have hbs5 := HB5.out.size
            go_wp2_with (at_builtin; refine wpList_concat (v := u10) rfl _ _ rfl rfl rfl HO5.out HZ.out hbs5 HLEN.out ?_; intro o2 w6 ho2 hg2 hr2; have so2 := ho2.isSl)
            have hb6 := Below_of_grown HB5.out hg2 hbs5 (fun b hb => (HO5.out.lt b hb).1)
            have HO6 := Lib.hid ho2; have HB6 := Lib.hid hb6
            clear ho2 hg2 hr2 hb6
            go_roundw
            case rel =>
              have e1 := HW1.out; have e2 := HW2.out; have e3 := HUS.out.2.1; have e4 := HTT.out; have e5 := HLE.out; have e6 := H15.out
              refine ⟨i + 1, ws ++ us, by go_num, by omega, HO6.out, by rw [List.length_append, e1, e3, e4]; omega, by rw [List.length_append]; omega, fun x hx => ?_, ?_, HB6.out⟩
              · rcases List.mem_append.1 hx with hx | hx
                · exact HW3.out x hx
                · exact HUS.out.lt x hx
              · rw [HTK.out]
                exact word_next (by omega) HGF.out HW4.out HUS.out
            case measure => simp [intOf]; omega
          · obtain rfl : i = L := by omega
            have htk : F.take i = F := List.take_of_length_le (by rw [HL.out]; exact Nat.le_refl _)
            rw [htk] at hw1 hw4
            have HO3 := Lib.hid ho; have HB3' := Lib.hid (Below.chain HBT.out hbb); have HW1 := Lib.hid hw1; have HW3 := Lib.hid hw3; have HW4 := Lib.hid hw4
            have hbs0 := HBT.out.size
            clear hw1 hw3 hw4 htk ho hbb
            by_cases hbig : 30 < ws.length
            · have hbig' : (30 : Int) < (ws.length : Int) := by omega
              go_wp2_with fail
              go_ret2
              exact ⟨.slice none 0 0, 2, ws, rfl, isSl_nil, by rw [hK]; exact HW1.out, HW3.out, by (have := HW4.out; rwa [← hkK, Int.neg_neg] at this), fun _ => rfl, fun h => by omega, HB3'.out⟩
            · have hbig' : ¬ (30 : Int) < (ws.length : Int) := by omega
              go_wp2_with fail
              refine (clip_calls _ ws _ _ HO3.out).mono ?_
              rintro e w6 ⟨rfl, z', rfl, hz'⟩
              have sz' := hz'.isSl
              have HZ' := Lib.hid hz'
              clear hz'
              go_wp2_with fail
              go_ret2
              exact ⟨z', 0, ws, rfl, sz', by rw [hK]; exact HW1.out, HW3.out, by (have := HW4.out; rwa [← hkK, Int.neg_neg] at this), fun h => by omega, fun _ => ⟨rfl, HZ'.out.low hbs0⟩, HB3'.out⟩
  · have hkK : k = (K : Int) := by omega
    subst hkK
    have HTWI := HTU.out.ints
    have HBT := HB3
    have HTLN := Lib.hid HTW.out.2.1
    have HUP := Lib.hid (fun j => times_up (by omega) HTW.out j)
    have HLTW := Lib.hid HTW.out.lt
    have HTI := Lib.hid HTWI
    have hTL : (tw).length ≤ 15 := by rw [HTLN.out]; exact inv_hf_small h6 h2
    have HTL := Lib.hid hTL; clear hTL
    go_wp2_with fail
    rename World => W0
    go_loopw [10, 35] (fun o jv wr => ∃ j : Nat, jv = .int .i64 j ∧ j ≤ K ∧ OwnI wr W0.heap.size o (timesW j (tw)) ∧ Below W0.heap.size W0 wr) (fun _ jv _ => K - (intOf jv).toNat)
    case atStart => exact ⟨0, rfl, Nat.zero_le _, by simpa [timesW] using ownI_nil _ _, Below.refl _ _⟩
    case round =>
      obtain ⟨j, rfl, hj, ho, hbb⟩ := hrel
      have so := ho.isSl
      by_cases hlt : j < K
      · have hlt' : (j : Int) < (K : Int) := by omega
        have hlen : (timesW j (tw)).length + (tw).length ≤ 1000000000000 := by
          rw [timesW_length]
          have h1 := Nat.mul_le_mul (show j ≤ 30 by omega) HTL.out
          have := HTL.out
          omega
        have hbs := hbb.size
        have HO := Lib.hid ho; have HBB := Lib.hid hbb; have HLEN := Lib.hid hlen; have HTJ := Lib.hid (HTI.out.below hbb)
        clear ho hbb hlen
        rename World => W1
        go_wp2_with (at_builtin; refine wpList_concat (v := u10) rfl _ _ rfl rfl rfl HO.out HTJ.out hbs HLEN.out ?_; intro o2 w5 ho2 hg2 hr2; have so2 := ho2.isSl)
        have hb6 := Below_of_grown HBB.out hg2 hbs (fun b hb => (HO.out.lt b hb).1)
        rw [← timesW_succ] at ho2
        have HO2 := Lib.hid ho2; have HB6 := Lib.hid hb6
        clear ho2 hb6 hg2 hr2
        go_roundw
        case rel => exact ⟨j + 1, by go_num, by omega, HO2.out, HB6.out⟩
        case measure => simp [intOf]; omega
      · obtain rfl : j = K := by omega
        have HO := Lib.hid ho; have HBB := Lib.hid hbb
        clear ho hbb
        go_wp2_with fail
        go_loopw [10, 43] (fun o jv wr => ∃ (i : Nat) (ws : List Int), jv = .int .i64 i ∧ i ≤ L ∧ OwnI wr W0.heap.size o ws ∧ ws.length = j * inv (hf n) + tot (F.take i) ∧ ws.length ≤ 450 + 15 * i ∧ (∀ x ∈ ws, Lt n x) ∧ Eqv n (mulW n (0, []) ws) ((j : Int), F.take i) ∧ Below W0.heap.size W0 wr) (fun _ jv _ => L - (intOf jv).toNat)
        case atStart =>
          refine ⟨0, _, rfl, Nat.zero_le _, HO.out, by rw [timesW_length, HTLN.out]; simp [tot], ?_, timesW_lt HLTW.out, by simpa using HUP.out j, HBB.out⟩
          rw [timesW_length]
          have h1 := Nat.mul_le_mul (show j ≤ 30 by omega) HTL.out
          omega
        case round =>
          obtain ⟨i, ws, rfl, hi, ho, hw1, hw2, hw3, hw4, hbb⟩ := hrel
          have so := ho.isSl
          have lo := ho.len
          by_cases hlt : i < L
          · have hiF : i < F.length := by rw [HL.out]; exact hlt
            have hbw := Below.chain HBT.out hbb
            have hR := H.out.below hbw
            have k0 := hR.cell hiF
            have r0 := hR.2.2 i hiF
            have s0 := r0.isSl
            have hpn : Pn n (nthr F i) := pn_nthr HG.out hiF
            have htk : F.take (i + 1) = F.take i ++ [nthr F i] := by rw [List.take_succ_eq_append_getElem hiF, nthr_lt hiF]
            have htt := tot_take hiF
            have hle := inv_le h6 h2 hpn
            have h15 := inv_hf_small h6 h2
            obtain ⟨q, hq⟩ : ∃ q, nthv vs i = q := ⟨_, rfl⟩
            rw [hq] at k0 r0 s0
            have HGW := Lib.hid (gword_calls n q _ _ r0 hpn h2 h6 (by omega))
            have hbs := hbb.size
            have HO3 := Lib.hid ho; have HB3' := Lib.hid hbb; have HW1 := Lib.hid hw1; have HW2 := Lib.hid hw2; have HW3 := Lib.hid hw3; have HW4 := Lib.hid hw4; have HTK := Lib.hid htk; have HTT := Lib.hid htt; have HLE := Lib.hid hle; have H15 := Lib.hid h15
            have HGF := Lib.hid (show Good n (F.take i) from fun x hx => HG.out x (List.mem_of_mem_take hx))
            clear ho hbb hw1 hw2 hw3 hw4 htk htt hle h15 hpn r0 hR hbw hq hiF lo
            rename World => W1
            go_wp2_with fail
            refine HGW.out.mono ?_
            rintro e w5 ⟨z, us, rfl, hz, hus, hb5⟩
            have sz := hz.isSl
            have HZ := Lib.hid hz.ints; have HUS := Lib.hid hus; have HB5 := Lib.hid (Below.chain HB3'.out hb5); have HO5 := Lib.hid (HO3.out.below hb5)
            have HLEN := Lib.hid (show ws.length + us.length ≤ 1000000000000 by have := hus.2.1; have := HW2.out; have := HLE.out; have := H15.out; omega)
            clear hz hus hb5
            have hbs5 := HB5.out.size
            go_wp2_with (at_builtin; refine wpList_concat (v := u10) rfl _ _ rfl rfl rfl HO5.out HZ.out hbs5 HLEN.out ?_; intro o2 w6 ho2 hg2 hr2; have so2 := ho2.isSl)
            have hb6 := Below_of_grown HB5.out hg2 hbs5 (fun b hb => (HO5.out.lt b hb).1)
            have HO6 := Lib.hid ho2; have HB6 := Lib.hid hb6
            clear ho2 hg2 hr2 hb6
            go_roundw
            case rel =>
              have e1 := HW1.out; have e2 := HW2.out; have e3 := HUS.out.2.1; have e4 := HTT.out; have e5 := HLE.out; have e6 := H15.out
              refine ⟨i + 1, ws ++ us, by go_num, by omega, HO6.out, by rw [List.length_append, e1, e3, e4]; omega, by rw [List.length_append]; omega, fun x hx => ?_, ?_, HB6.out⟩
              · rcases List.mem_append.1 hx with hx | hx
                · exact HW3.out x hx
                · exact HUS.out.lt x hx
              · rw [HTK.out]
                exact word_next (by omega) HGF.out HW4.out HUS.out
            case measure => simp [intOf]; omega
          · obtain rfl : i = L := by omega
            have htk : F.take i = F := List.take_of_length_le (by rw [HL.out]; exact Nat.le_refl _)
            rw [htk] at hw1 hw4
            have HO3 := Lib.hid ho; have HB3' := Lib.hid (Below.chain HBT.out hbb); have HW1 := Lib.hid hw1; have HW3 := Lib.hid hw3; have HW4 := Lib.hid hw4
            have hbs0 := HBT.out.size
            clear hw1 hw3 hw4 htk ho hbb
            by_cases hbig : 30 < ws.length
            · have hbig' : (30 : Int) < (ws.length : Int) := by omega
              go_wp2_with fail
              go_ret2
              exact ⟨.slice none 0 0, 2, ws, rfl, isSl_nil, by rw [hK]; exact HW1.out, HW3.out, by exact HW4.out, fun _ => rfl, fun h => by omega, HB3'.out⟩
            · have hbig' : ¬ (30 : Int) < (ws.length : Int) := by omega
              go_wp2_with fail
              refine (clip_calls _ ws _ _ HO3.out).mono ?_
              rintro e w6 ⟨rfl, z', rfl, hz'⟩
              have sz' := hz'.isSl
              have HZ' := Lib.hid hz'
              clear hz'
              go_wp2_with fail
              go_ret2
              exact ⟨z', 0, ws, rfl, sz', by rw [hK]; exact HW1.out, HW3.out, by exact HW4.out, fun h => by omega, fun _ => ⟨rfl, HZ'.out.low hbs0⟩, HB3'.out⟩

theorem mulW_bounds {n : Nat} (w : List Int) : ∀ s : St, (mulW n s w).2.length = s.2.length + w.length ∧ s.1 - w.length ≤ (mulW n s w).1 ∧ (mulW n s w).1 ≤ s.1 := by
  induction w with
  | nil => intro s; simp [mulW]
  | cons x w ih =>
    intro s
    obtain ⟨h1, h2, h3⟩ := ih (mulS n s x)
    rw [show mulW n s (x :: w) = mulW n (mulS n s x) w from rfl]
    have h4 : (mulS n s x).2.length = s.2.length + 1 ∧ s.1 - 1 ≤ (mulS n s x).1 ∧ (mulS n s x).1 ≤ s.1 := by
      unfold mulS; split <;> (refine ⟨by simp, ?_, ?_⟩ <;> simp only <;> omega)
    simp only [List.length_cons]
    omega
theorem nf_bounds {n : Nat} {w : List Int} {c : St} (h : Cn n (mulW n (0, []) w) c) : c.2.length ≤ w.length ∧ -(w.length : Int) ≤ c.1 ∧ c.1 ≤ w.length := by
  have h1 := cn_bounds h
  have h2 := mulW_bounds (n := n) w (0, [])
  simp at h2
  omega

end Go.Proofs.Ytnkahkahcajahaa

/- slices.IndexFunc and DeleteFunc over slices of slices, by a property of the slices' lengths alone. -/
import Derived.Test.YtmcecmnbdcbehaaQLinkSums0
import Derived.Test.YtmcecmnbdcbehaaQLinkSums1
import Derived.Test.YtmcecmnbdcbehaaQLinkSums2
import Derived.Test.YtmcecmnbdcbehaaQLinkSums5
import Derived.Test.YtmcecmnbdcbehaaQLinkSums6
import Derived.Test.YtmcecmnbdcbehaaQLinkSums7
import Derived.Test.YtmcecmnbdcbehaaQLinkSums9
import Derived.Test.YtmcecmnbdcbehaaQLinkSums23
import Derived.Lib.SliceRun
namespace Go.Proofs.Ytmcecmnbdcbehaa
open Go.RowKit Go.Sl

theorem nthv_mem {vs : List Value} {i : Nat} (h : i < vs.length) : nthv vs i ∈ vs := by rw [nthv_lt h]; exact List.getElem_mem h

set_option maxRecDepth 100000 in
theorem idxV_calls (v : Value) (vs : List Value) (p : Value → Bool) (k : FuncId) (hk : ∀ args w, (callFunc k args).run Try.prog w = .ok (.enter k args) w) (w : World) (hv : Sl w v 1 vs) (hvs : ∀ u ∈ vs, IsSl u) (hl : vs.length ≤ 1000)
    (hf : ∀ u W, u ∈ vs → Calls Try.prog k #[u] W fun e W' => e = .returned (.bool (p u)) ∧ W = W') :
    Calls Try.prog 154 #[v, .func (.func k) #[] #[]] w fun e w' =>
      ((∃ m : Nat, m < vs.length ∧ e = .returned (.int .i64 m) ∧ p (nthv vs m) = true ∧ ∀ j, j < m → p (nthv vs j) = false) ∨ (e = .returned (.int .i64 (-1)) ∧ ∀ j, j < vs.length → p (nthv vs j) = false)) ∧ w = w' := by
  have sv := hv.isSl
  have lv : vlen v = vs.length := by have := hv.2.1; omega
  have hcells : ∀ i, i < vs.length → w.cell? (vat v i) = some (nthv vs i) := fun i hi => by rw [nthv_lt hi]; exact hv.cell hi
  have hsl : ∀ i, i < vs.length → IsSl (nthv vs i) := fun i hi => hvs _ (nthv_mem hi)
  obtain ⟨n, hn⟩ : ∃ n, vs.length = n := ⟨_, rfl⟩
  have HF := Lib.hid hf; have HC := Lib.hid hcells; have HS := Lib.hid hsl; have HN := Lib.hid hn
  rw [hn] at lv hl
  clear hf hcells hsl hv hvs hn
  go_enter Try.func154, Try.ntmps154
  go_wp2_with fail
  go_loopw [8] (fun i wr => ∃ m : Nat, m ≤ n ∧ i = .int .i64 m ∧ (∀ j, j < m → p (nthv vs j) = false) ∧ wr = w) (fun i _ => n - (intOf i).toNat)
  case atStart => exact ⟨0, Nat.zero_le _, rfl, fun j h => by omega, rfl⟩
  case round =>
    obtain ⟨m, hm, rfl, hb, rfl⟩ := hrel
    by_cases hlt : m < n
    · have hlt' : m < vs.length := by rw [HN.out]; exact hlt
      have c1 := HC.out m hlt'
      have s1 := HS.out m hlt'
      have HFX := Lib.hid (HF.out (nthv vs m) wr (nthv_mem hlt'))
      have HB := Lib.hid hb
      clear hb
      obtain ⟨x, hx⟩ : ∃ x, nthv vs m = x := ⟨_, rfl⟩
      rw [hx] at c1 s1 HFX
      by_cases hp : p x = true
      · rw [hp] at HFX
        have hpx : p (nthv vs m) = true := by rw [hx]; exact hp
        have HP := Lib.hid hpx
        clear hx hp hpx
        go_wp2_with fail
        refine HFX.out.mono ?_
        rintro e w' ⟨rfl, rfl⟩
        go_wp2_with fail
        go_ret
        exact ⟨.inl ⟨m, hlt', rfl, HP.out, HB.out⟩, rfl⟩
      · have hp' : p x = false := by simpa using hp
        rw [hp'] at HFX
        have hall : ∀ j, j < m + 1 → p (nthv vs j) = false := fun j hj => by
          rcases Nat.lt_or_ge j m with h | h
          · exact HB.out j h
          · rw [show j = m by omega, hx]; exact hp'
        have HA := Lib.hid hall
        clear hx hp hp' hall
        go_wp2_with fail
        refine HFX.out.mono ?_
        rintro e w' ⟨rfl, rfl⟩
        go_wp2_with fail
        go_roundw
        case rel => exact ⟨m + 1, by omega, by go_num, HA.out, by first | rfl | trivial⟩
        case measure => simp [intOf]; omega
    · have hall : ∀ j, j < vs.length → p (nthv vs j) = false := fun j hj => hb j (by rw [HN.out] at hj; omega)
      have HA := Lib.hid hall
      clear hb hall
      go_wp2_with fail
      go_ret
      exact ⟨.inr ⟨rfl, HA.out⟩, rfl⟩

theorem ownG_behind {w : World} {B : Nat} {e : TypeId} {v : Value} {cs : List Value} (h : OwnG w B e v cs) {o : Nat} (ho : voff v + cs.length ≤ o) (u : Value) : OwnG (w.setCell ⟨vblk v, o, none⟩ u) B e v cs := by
  refine ⟨h.1, h.2.1, fun h0 => ?_⟩
  obtain ⟨hB, cur, hh, hs, hc⟩ := h.2.2 h0
  refine ⟨hB, cur.setIfInBounds o u, ?_, by simpa using hs, fun j hj => ?_⟩
  · simp [World.setCell, Array.getElem?_modify, hh]
  · rw [Array.getElem?_setIfInBounds_ne (by omega)]; exact hc j hj
theorem ownG_behinds {B : Nat} {e : TypeId} {v : Value} {cs : List Value} : ∀ (us : List Value) (o : Nat) (w : World), OwnG w B e v cs → voff v + cs.length ≤ o → OwnG (w.setCells (vblk v) o us) B e v cs
  | [], _, _, h, _ => h
  | u :: us, o, w, h, ho => ownG_behinds us (o + 1) (w.setCell ⟨vblk v, o, none⟩ u) (ownG_behind h ho u) (by omega)
theorem below_cells {B : Nat} {w0 : World} (b : Nat) (hb : B ≤ b) : ∀ (vs : List Value) (o : Nat) (w : World), Below B w0 w → Below B w0 (w.setCells b o vs)
  | [], _, _, h => h
  | v :: vs, o, w, h => below_cells b hb vs (o + 1) (w.setCell ⟨b, o, none⟩ v) (h.setCell hb v)
/-- clear(s[i:]) of slices. -/
theorem run_clearV {w w0 : World} (ty : TypeId) {B B0 : Nat} {v : Value} {cs : List Value} {i n c : Nat} (h : OwnG w B 25 v cs) (hn : cs.length = n) (hi : i ≤ n) (hc : vcap v = c) (hB : B0 ≤ B) (hb : Below B0 w0 w) :
    ∃ w2, (Builtin.clear_ #[22] ty #[vcut v i n c 1]).run Try.prog w = .ok (.tuple #[]) w2 ∧ OwnG w2 B 25 (vcut v 0 i c 1) (cs.take i) ∧ Below B0 w0 w2 := by
  have hhead := h.head (k := i) (by omega)
  rw [hc] at hhead
  by_cases h0 : i = n
  · refine ⟨w, ?_, hhead, hb⟩
    have e : vcut v i n c 1 = .slice (if c = i then vbase v else (vbase v).map (·.add (i * 1))) 0 (c - i) := by unfold vcut; rw [show n - i = 0 by omega]
    rw [e]
    cases (if c = i then vbase v else (vbase v).map (·.add (i * 1))) <;> simp [Builtin.clear_, run_underlying Try.underlying22]
  · obtain ⟨ti, hti, hz0, hz1, hz2⟩ := info_parts info_slice
    have hcapp : 0 < vcap v := h.cap_of (j := i) (by omega)
    have hvl := h.len
    have hle := h.isSl.le
    have hcut : vcut v i n c 1 = .slice (some ⟨vblk v, voff v + i, none⟩) (n - i) (c - i) := by
      have hne : ¬ c = i := by omega
      have hbase := h.isSl.base hcapp
      simp [vcut, hne, hbase, vat, Addr.add_lit]
    have hr := Lib.run_clear_slice (P := Try.prog) w 22 25 ty (.slice none 0 0) Try.underlying22 (fun w => by simp [zeroValue, typeInfo, hti, hz0]) rfl rfl (vblk v) (voff v + i) (n - i) (c - i) (by omega)
      (by intro j hj; have := h.cell (j := i + j) (by omega); rw [Nat.add_assoc]; unfold vat at this; rw [this]; rfl)
      (by intro j hj; have := h.frozen (j := i + j) (by omega); rw [Nat.add_assoc]; exact this)
    rw [hcut, hr]
    refine ⟨_, rfl, ?_, below_cells _ (Nat.le_trans hB (h.2.2 hcapp).1) _ _ _ hb⟩
    have eb : vblk (vcut v 0 i c 1) = vblk v ∧ voff (vcut v 0 i c 1) = voff v := by
      have h1 := vat_cut h.isSl (l := 0) (h := i) (m := c) (s := 1) 0 (by omega) (by omega)
      refine ⟨?_, ?_⟩
      · have := congrArg Addr.block h1; rwa [vat_block, vat_block] at this
      · have := congrArg Addr.off h1; simpa [vat] using this
    rw [← eb.1]
    refine ownG_behinds _ _ _ hhead ?_
    rw [eb.2, List.length_take]; omega

theorem keptV_step {p : Value → Bool} {vs : List Value} {b : Nat} (hb : b < vs.length) : (vs.take (b + 1)).filter (fun x => !p x) = (vs.take b).filter (fun x => !p x) ++ if p (nthv vs b) then [] else [nthv vs b] := by
  rw [List.take_succ_eq_append_getElem hb, List.filter_append, nthv_lt hb]
  cases h : p vs[b] <;> simp [h]

set_option maxRecDepth 100000 in
set_option maxHeartbeats 2000000 in
theorem delV_calls (v : Value) (vs : List Value) (p : Value → Bool) (k : FuncId) (hk : ∀ args w, (callFunc k args).run Try.prog w = .ok (.enter k args) w) (B : Nat) (w : World) (h : OwnG w B 25 v vs) (hvs : ∀ u ∈ vs, IsSl u) (hl : vs.length ≤ 1000)
    (hf : ∀ u W, u ∈ vs → Calls Try.prog k #[u] W fun e W' => e = .returned (.bool (p u)) ∧ W = W') :
    Calls Try.prog 110 #[v, .func (.func k) #[] #[]] w fun e w' => ∃ u, e = .returned u ∧ OwnG w' B 25 u (vs.filter fun x => !p x) ∧ Below B w w' := by
  have sv := h.isSl
  have lv := h.len
  obtain ⟨n, hn⟩ : ∃ n, vs.length = n := ⟨_, rfl⟩
  obtain ⟨c, hc⟩ : ∃ c, vcap v = c := ⟨_, rfl⟩
  have hcap := sv.le
  have cmax := sv.2.2.1
  have HI := Lib.hid (idxV_calls v vs p k hk w h.sl hvs hl hf)
  have hsl : ∀ i, i < vs.length → IsSl (nthv vs i) := fun i hi => hvs _ (nthv_mem hi)
  have HF := Lib.hid hf; have HO := Lib.hid h; have HC := Lib.hid hc; have HN := Lib.hid hn; have HSL := Lib.hid hsl
  rw [hn] at lv
  rw [hc] at hcap cmax
  have hn1000 : n ≤ 1000 := by omega
  clear hf h hvs hl hc hn hsl
  have HM := Lib.hid cmax; clear cmax
  go_enter Try.func110, Try.ntmps110
  go_wp2_with fail
  refine HI.out.mono ?_
  rintro e w' ⟨⟨m, hm, rfl, hpm, hbef⟩ | ⟨rfl, hall⟩, rfl⟩
  · have hfirst : ∀ b, b ≤ m → (vs.take b).filter (fun x => !p x) = vs.take b := by
      intro b
      induction b with
      | zero => intro _; simp
      | succ b ih => intro hb; rw [keptV_step (by omega), ih (by omega), hbef b (by omega), List.take_succ_eq_append_getElem (by omega), nthv_lt (by omega)]; simp
    have hstart : (vs.take (m + 1)).filter (fun x => !p x) = vs.take m := by rw [keptV_step hm, hfirst m (Nat.le_refl _), hpm]; simp
    have HS := Lib.hid hstart
    have hmn : m < n := by rw [← HN.out]; exact hm
    have m1 : (((m : Int)) == -1) = false := by simp
    have lc : n ≤ c := by omega
    clear hstart hfirst hbef hpm hm
    go_wp2_with fail
    go_loopw [5, 6] (fun i j wr => ∃ (a b : Nat) (ys : List Value), i = .int .i64 a ∧ j = .int .i64 b ∧ a < b ∧ b ≤ n ∧ ys.length = n ∧ (∀ q, b ≤ q → q < n → nthv ys q = nthv vs q) ∧ ys.take a = (vs.take b).filter (fun x => !p x) ∧ OwnG wr B 25 v ys ∧ Below B w wr) (fun _ j _ => n - (intOf j).toNat)
    case atStart => exact ⟨m, m + 1, vs, rfl, by go_num, by omega, by omega, HN.out, fun _ _ _ => rfl, HS.out.symm, HO.out, Below.refl _ _⟩
    case round =>
      obtain ⟨a, b, ys, rfl, rfl, hab, hbn, hyl, hrest, ha, ho, hb⟩ := hrel
      by_cases hlt : b < n
      · have hbv : b < vs.length := by rw [HN.out]; exact hlt
        have cb := ho.cell (j := b) (by omega)
        rw [← nthv_lt (by omega), hrest b (Nat.le_refl _) hlt] at cb
        have sx := HSL.out b hbv
        have HFx := Lib.hid (HF.out (nthv vs b) wr (nthv_mem hbv))
        have hks := keptV_step (p := p) (vs := vs) (b := b) hbv
        have hca := ho.cap_of (j := a) (by omega)
        have fa := ho.frozen (j := a) (by have := ho.isSl.le; have := ho.len; omega)
        have ca := ho.there (j := a) (by have := ho.isSl.le; have := ho.len; omega)
        have ga := ho.ge hca a
        obtain ⟨x, hx⟩ : ∃ x, nthv vs b = x := ⟨_, rfl⟩
        rw [hx] at cb HFx hks sx
        by_cases hp : p x = true
        · rw [hp] at HFx hks
          have HR := Lib.hid hrest; have HA := Lib.hid ha; have HO2 := Lib.hid ho; have HB2 := Lib.hid hb; have HK := Lib.hid hks; have HY := Lib.hid hyl
          clear hrest ha ho hb hks hx hp hyl
          go_wp2_with fail
          refine HFx.out.mono ?_
          rintro e w' ⟨rfl, rfl⟩
          go_wp2_with fail
          go_roundw
          case rel => exact ⟨a, b + 1, ys, rfl, by go_num, by omega, by omega, HY.out, fun q h1 h2 => HR.out q (by omega) h2, by rw [HK.out, HA.out]; simp, HO2.out, HB2.out⟩
          case measure => simp [intOf]; omega
        · have hp' : p x = false := by simpa using hp
          rw [hp'] at HFx hks
          have hnew : (ys.set a x).take (a + 1) = ys.take a ++ [x] := by
            rw [List.take_succ_eq_append_getElem (by rw [List.length_set]; omega)]
            simp [List.take_set_of_le]
          have HR := Lib.hid hrest; have HA := Lib.hid ha; have HO2 := Lib.hid (ho.set (j := a) (by omega) x); have HB2 := Lib.hid (hb.setCell ga x); have HK := Lib.hid hks; have HY := Lib.hid hyl; have HNW := Lib.hid hnew
          clear hrest ha ho hb hks hx hp hp' hyl hnew
          go_wp2_with fail
          refine HFx.out.mono ?_
          rintro e w' ⟨rfl, rfl⟩
          go_wp2_with fail
          go_roundw
          case rel => exact ⟨a + 1, b + 1, ys.set a x, by go_num, by go_num, by omega, by omega, by rw [List.length_set]; exact HY.out, fun q h1 h2 => by
            have e1 : nthv (ys.set a x) q = nthv ys q := by
              unfold nthv; rw [List.getD_eq_getElem?_getD, List.getD_eq_getElem?_getD, List.getElem?_set, if_neg (by omega)]
            rw [e1]; exact HR.out q (by omega) h2, by rw [HK.out, HNW.out, HA.out]; simp, HO2.out, HB2.out⟩
          case measure => simp [intOf]; omega
      · obtain rfl : b = n := by omega
        have hal : a ≤ b := by omega
        obtain ⟨w2, hcl, ho2, hb2⟩ := run_clearV (i := a) 0 ho hyl hal HC.out (Nat.le_refl _) hb
        have hcut : IsSl (vcut v 0 a c 1) := isSl_cut sv (Nat.zero_le _) (by omega) (by rw [HC.out]; exact Nat.le_refl _)
        have hfin : ys.take a = vs.filter fun x => !p x := by
          rw [ha, List.take_of_length_le (by rw [HN.out]; exact Nat.le_refl _)]
        rw [hfin] at ho2
        have HB2 := Lib.hid hb2; have HO2 := Lib.hid ho2; have HCU := Lib.hid hcut
        have hcv := HC.out
        clear ha ho hb hfin hb2 hrest hcut hyl ho2
        go_wp2_with fail
        go_ret
        exact ⟨vcut v 0 a c 1, rfl, HO2.out, HB2.out⟩
  · have hfin : vs.filter (fun x => !p x) = vs := by
      rw [List.filter_eq_self]
      intro u hu
      obtain ⟨i, hi, rfl⟩ := List.getElem_of_mem hu
      have := hall i hi
      rw [nthv_lt hi] at this
      simp [this]
    have HFN := Lib.hid hfin
    clear hall hfin
    go_wp2_with fail
    go_ret
    exact ⟨v, rfl, by rw [HFN.out]; exact HO.out, Below.refl _ _⟩

end Go.Proofs.Ytmcecmnbdcbehaa


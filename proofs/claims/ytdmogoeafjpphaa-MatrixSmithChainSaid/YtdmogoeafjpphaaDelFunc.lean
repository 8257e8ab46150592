/- slices.DeleteFunc over a slice of ints of the call's own: how many are left. -/
import Derived.Test.YtdmogoeafjpphaaIdxFunc
import Derived.Test.YtdmogoeafjpphaaPermLaw
import Derived.Lib.SliceRun
namespace Go.Proofs.Ytdmogoeafjpphaa
open Go.RowKit Go.Sl

theorem below_setCells {B : Nat} {w0 : World} (b : Nat) (hb : B ≤ b) : ∀ (vs : List Value) (o : Nat) (w : World), Below B w0 w → Below B w0 (w.setCells b o vs)
  | [], _, _, h => h
  | v :: vs, o, w, h => below_setCells b hb vs (o + 1) (w.setCell ⟨b, o, none⟩ v) (h.setCell hb v)
/-- clear(s[i:]). -/
theorem run_clear_rest {w w0 : World} (ty : TypeId) {B B0 : Nat} {v : Value} {xs : List Int} {i n c : Nat} (hown : OwnI w B v xs) (hn : xs.length = n) (hi : i ≤ n) (hc : vcap v = c) (hB : B0 ≤ B) (hb : Below B0 w0 w) :
    ∃ w2, (Builtin.clear_ #[25] ty #[vcut v i n c 1]).run Try.prog w = .ok (.tuple #[]) w2 ∧ Below B0 w0 w2 := by
  by_cases h0 : i = n
  · refine ⟨w, ?_, hb⟩
    have e : vcut v i n c 1 = .slice (if c = i then vbase v else (vbase v).map (·.add (i * 1))) 0 (c - i) := by unfold vcut; rw [show n - i = 0 by omega]
    rw [e]
    cases (if c = i then vbase v else (vbase v).map (·.add (i * 1))) <;> simp [Builtin.clear_, run_underlying Try.underlying25]
  · obtain ⟨ti, hti, hz0, hz1, hz2⟩ := info_parts info_int
    have hcap := hown.ints.cap
    obtain ⟨hBb, ho', cur, hg, hcs, htake⟩ := hown.2.2 (by omega)
    obtain ⟨a', m, c', rfl, hm, hc', ha⟩ := hown.isSl.cases
    rw [vcap_mk] at hcap hc
    subst hc
    obtain ⟨g, o', rfl⟩ := ha (by omega)
    have ho'' : o' = 0 := ho'
    subst ho''
    have hcut : vcut (.slice (some ⟨g, 0, none⟩) m c') i n c' 1 = .slice (some ⟨g, i, none⟩) (n - i) (c' - i) := by
      have hne : ¬ c' = i := by omega
      simp [vcut, hne, Addr.add_lit]
    have hr := Lib.run_clear_slice (P := Try.prog) w 25 3 ty (.int .i64 0) Try.underlying25 (fun w => by simp [zeroValue, typeInfo, hti, hz0]) rfl rfl g i (n - i) (c' - i) (by omega)
      (by intro j hj; have := hown.cell (k := i + j) (by omega); rw [vat_mk, Nat.zero_add] at this; rw [this]; rfl)
      (by intro j hj; have := hown.frozen (k := i + j) (by omega); rw [vat_mk, Nat.zero_add] at this; exact this)
    rw [hcut, hr]
    exact ⟨_, rfl, below_setCells g (Nat.le_trans hB hBb) _ _ _ hb⟩

theorem kept_step {p : Int → Bool} {xs : List Int} {b : Nat} (hb : b < xs.length) : ((xs.take (b + 1)).filter (fun x => !p x)).length = ((xs.take b).filter (fun x => !p x)).length + if p (nth xs b) then 0 else 1 := by
  rw [List.take_succ_eq_append_getElem hb, List.filter_append, List.length_append, nth_lt hb]
  cases h : p xs[b] <;> simp [h]

set_option maxRecDepth 100000 in
set_option maxHeartbeats 2000000 in
theorem deleteFunc_calls (v : Value) (xs : List Int) (p : Int → Bool) (k : FuncId) (hk : ∀ args w, (callFunc k args).run Try.prog w = .ok (.enter k args) w) (B : Nat) (w : World) (h : OwnI w B v xs) (hBw : B ≤ w.heap.size) (hl : xs.length ≤ 1000)
    (hf : ∀ x W, x ∈ xs → Calls Try.prog k #[.int .i64 x] W fun e W' => e = .returned (.bool (p x)) ∧ W = W') :
    Calls Try.prog 64 #[v, .func (.func k) #[] #[]] w fun e w' => ∃ u, e = .returned u ∧ IsSl u ∧ vlen u = (xs.filter fun x => !p x).length ∧ Below B w w' := by
  have sv := h.isSl
  have lv := h.len
  have hcap := h.ints.cap
  have i63 := sv.i63
  have cmax := sv.2.2.1
  obtain ⟨n, hn⟩ : ∃ n, xs.length = n := ⟨_, rfl⟩
  obtain ⟨c, hc⟩ : ∃ c, vcap v = c := ⟨_, rfl⟩
  by_cases hany : ∃ m, m < xs.length ∧ p (nth xs m) = true ∧ ∀ j, j < m → p (nth xs j) = false
  · obtain ⟨m, hm, hpm, hbef⟩ := hany
    have HI := Lib.hid (indexFunc_some v xs k #[] hk m w h.ints hm (fun j hj => by have := hf (nth xs j) w (nth_mem (by omega)); rwa [hbef j hj] at this) (by have := hf (nth xs m) w (nth_mem hm); rwa [hpm] at this))
    have hfirst : ∀ b, b ≤ m → ((xs.take b).filter (fun x => !p x)).length = b := by
      intro b
      induction b with
      | zero => intro _; simp
      | succ b ih => intro hb; rw [kept_step (by omega), ih (by omega), hbef b (by omega)]; simp
    have hstart : m = ((xs.take (m + 1)).filter (fun x => !p x)).length := by rw [kept_step hm, hfirst m (Nat.le_refl _), hpm]; simp
    have HS := Lib.hid hstart; have HF := Lib.hid hf; have HO := Lib.hid h; have HLV := Lib.hid lv; have HC := Lib.hid hc
    have hmn : m < n := by omega
    have lvn : vlen v = n := by omega
    have HN := Lib.hid hn
    have lc : n ≤ c := by omega
    have m1 : (((m : Int)) == -1) = false := by simp
    clear hstart hf h lv hc hbef hpm hm hfirst hn hcap
    have HM := Lib.hid cmax; clear cmax
    have hn1000 : n ≤ 1000 := by rw [← HN.out]; exact hl
    clear hl
    go_enter Try.func64, Try.ntmps64
    go_wp2_with fail
    refine HI.out.mono ?_
    rintro e w' ⟨rfl, rfl⟩
    go_wp2_with fail
    go_loopw [5, 6] (fun i j wr => ∃ (a b : Nat) (ys : List Int), i = .int .i64 a ∧ j = .int .i64 b ∧ a < b ∧ b ≤ n ∧ ys.length = n ∧ (∀ q, b ≤ q → q < n → nth ys q = nth xs q) ∧ a = ((xs.take b).filter (fun x => !p x)).length ∧ OwnI wr B v ys ∧ Below B w wr) (fun _ j _ => n - (intOf j).toNat)
    case atStart => exact ⟨m, m + 1, xs, rfl, by go_num, by omega, by omega, HN.out, fun _ _ _ => rfl, HS.out, HO.out, Below.refl _ _⟩
    case round =>
      obtain ⟨a, b, ys, rfl, rfl, hab, hbn, hyl, hrest, ha, ho, hb⟩ := hrel
      by_cases hlt : b < n
      · have cb := ho.cell (k := b) (by omega)
        rw [hrest b (Nat.le_refl _) hlt] at cb
        have HFx := Lib.hid (HF.out (nth xs b) wr (nth_mem (by rw [HN.out]; exact hlt)))
        have hks := kept_step (p := p) (xs := xs) (b := b) (by rw [HN.out]; exact hlt)
        have fa := ho.frozen (k := a) (by omega)
        have ca := ho.cell (k := a) (by omega)
        have ga := ho.ge (k := a) (by omega)
        obtain ⟨x, hx⟩ : ∃ x, nth xs b = x := ⟨_, rfl⟩
        rw [hx] at cb HFx hks
        by_cases hp : p x = true
        · rw [hp] at HFx hks
          have HR := Lib.hid hrest; have HA := Lib.hid ha; have HO2 := Lib.hid ho; have HB2 := Lib.hid hb; have HK := Lib.hid hks; have HY := Lib.hid hyl
          clear hrest ha ho hb hks hx hp hyl
          go_wp2_with fail
          refine HFx.out.mono ?_
          rintro e w' ⟨rfl, rfl⟩
          go_wp2_with fail
          go_roundw
          case rel => exact ⟨a, b + 1, ys, rfl, by go_num, by omega, by omega, HY.out, fun q h1 h2 => HR.out q (by omega) h2, by rw [HK.out, ← HA.out]; simp, HO2.out, HB2.out⟩
          case measure => simp [intOf]; omega
        · have hp' : p x = false := by simpa using hp
          rw [hp'] at HFx hks
          have HR := Lib.hid hrest; have HA := Lib.hid ha; have HO2 := Lib.hid (ho.set (k := a) (by omega) x); have HB2 := Lib.hid (hb.setCell ga (.int .i64 x)); have HK := Lib.hid hks; have HY := Lib.hid hyl
          clear hrest ha ho hb hks hx hp hp' hyl
          go_wp2_with fail
          refine HFx.out.mono ?_
          rintro e w' ⟨rfl, rfl⟩
          go_wp2_with fail
          go_roundw
          case rel => exact ⟨a + 1, b + 1, ys.set a x, by go_num, by go_num, by omega, by omega, by simp; exact HY.out, fun q h1 h2 => by rw [nth_set_other _ (by omega)]; exact HR.out q (by omega) h2, by rw [HK.out, ← HA.out]; simp, HO2.out, HB2.out⟩
          case measure => simp [intOf]; omega
      · obtain rfl : b = n := by omega
        have hal : a ≤ b := by omega
        obtain ⟨w2, hcl, hb2⟩ := run_clear_rest (i := a) 0 ho hyl hal HC.out (Nat.le_refl _) hb
        have hcut : IsSl (vcut v 0 a c 1) := isSl_cut sv (Nat.zero_le _) (by omega) (by rw [HC.out]; exact Nat.le_refl _)
        have hfin : a = (xs.filter fun x => !p x).length := by
          have h1 := ha
          rw [List.take_of_length_le (by rw [HN.out]; exact Nat.le_refl _)] at h1
          exact h1
        have HFI := Lib.hid hfin; have HB2 := Lib.hid hb2; have HO2 := Lib.hid ho; have HCU := Lib.hid hcut
        have hcv := HC.out
        clear ha ho hb hfin hb2 hrest hcut hyl
        go_wp2_with fail
        go_ret
        exact ⟨vcut v 0 a c 1, rfl, HCU.out, by rw [vlen_cut]; exact HFI.out, HB2.out⟩
  · have hall : ∀ m, m < xs.length → p (nth xs m) = false := by
      intro m
      induction m using Nat.strongRecOn with
      | ind m ih =>
        intro hm
        cases hp : p (nth xs m) with
        | false => rfl
        | true => exact absurd ⟨m, hm, hp, fun j hj => ih j hj (by omega)⟩ hany
    have hal : ∀ x ∈ xs, p x = false := by
      intro x hx
      obtain ⟨j, hj, rfl⟩ := List.getElem_of_mem hx
      rw [← nth_lt hj]; exact hall j hj
    have HI := Lib.hid (indexFunc_none v xs k #[] hk w h.ints (fun x hx => by have := hf x w hx; rwa [hal x hx] at this))
    have hfil : xs.filter (fun x => !p x) = xs := List.filter_eq_self.2 (fun x hx => by rw [hal x hx]; rfl)
    have hlen : vlen v = (xs.filter fun x => !p x).length := by rw [hfil, lv]
    have HL := Lib.hid hlen
    clear hf h lv hc hany hal hall hfil hlen hcap hn
    go_enter Try.func64, Try.ntmps64
    go_wp2_with fail
    refine HI.out.mono ?_
    rintro e w' ⟨rfl, rfl⟩
    go_wp2_with fail
    go_ret
    exact ⟨_, rfl, sv, HL.out, Below.refl _ _⟩

end Go.Proofs.Ytdmogoeafjpphaa

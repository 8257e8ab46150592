/- perm.Sign and Cycles walked. -/
import Derived.Test.YtmcecmnbdcbehaaQLinkSums0
import Derived.Test.YtmcecmnbdcbehaaQLinkSums1
import Derived.Test.YtmcecmnbdcbehaaQLinkSums2
import Derived.Test.YtmcecmnbdcbehaaQLinkSums3
import Derived.Test.YtmcecmnbdcbehaaQLinkSums5
import Derived.Test.YtmcecmnbdcbehaaQLinkSums6
import Derived.Test.YtmcecmnbdcbehaaQLinkSums7
import Derived.Test.YtmcecmnbdcbehaaQLinkSums9
import Derived.Test.YtmcecmnbdcbehaaQLinkSums10
import Derived.Test.YtmcecmnbdcbehaaQLinkSums11
import Derived.Test.YtmcecmnbdcbehaaQLinkSums12
import Derived.Test.YtmcecmnbdcbehaaQLinkSums23
import Derived.Test.YtmcecmnbdcbehaaQLinkSums24
import Derived.Shelf.Abstract
namespace Go.Proofs.Ytmcecmnbdcbehaa
open Go.RowKit Go.Sl

theorem cyc_count {a : List Int} {L : List Nat} (h : CycOK a L) : L.length ≤ a.length := by
  have h5 : ∀ L : List Nat, (∀ l ∈ L, 0 < l) → L.length ≤ L.sum := fun L => by
    induction L with
    | nil => intro _; simp
    | cons l L ih => intro h; have := ih fun x hx => h x (by simp [hx]); have := h l (by simp); simp; omega
  have := h5 L h.pos
  rw [h.sum] at this
  exact this

theorem enters_v {k : FuncId} (h : Go.Proofs.Enters Try.prog k) : ∀ args w, (callFunc k args).run Try.prog w = .ok (.enter k args) w := h
theorem cycles1_calls (v : Value) (w : World) (hv : IsSl v) : Calls Try.prog 111 #[v] w fun e w' => e = .returned (.bool (decide (vlen v < 2))) ∧ w = w' := by
  go_enter Try.func111, Try.ntmps111
  go_wp2
  go_ret
  exact ⟨by simp; omega, rfl⟩

theorem clipV_calls (v : Value) (vs : List Value) (w : World) (h : Sl w v 1 vs) :
    Calls Try.prog 89 #[v] w fun e w' => (∃ v', e = .returned v' ∧ Sl w v' 1 vs) ∧ w = w' := by
  have sv := h.isSl
  have lv : vlen v = vs.length := by have := h.2.1; omega
  have hcap := sv.le
  have hcut := h.cut (l := 0) (r := vs.length) (m := vs.length) (by omega) (by omega) (Nat.le_refl _) (by omega)
  rw [Nat.zero_mul, List.drop_zero, Nat.sub_zero, Nat.mul_one, List.take_length] at hcut
  have HC := Lib.hid hcut
  obtain ⟨n, hn⟩ : ∃ n, vs.length = n := ⟨_, rfl⟩
  rw [hn] at lv HC
  clear h hcut hn
  have hnc : n ≤ vcap v := by omega
  go_enter Try.func89, Try.ntmps89
  go_wp2
  go_ret
  exact ⟨⟨_, rfl, HC.out⟩, rfl⟩

set_option maxRecDepth 100000 in
theorem pcycles_calls (a : Value) (xs : List Int) (w : World) (ha : Ints w a xs) (hp : IsPerm xs) (hs : xs.length ≤ 9) :
    Calls Try.prog 51 #[a] w fun e w' => ∃ (L : List Nat) (u : Value) (vs : List Value), e = .returned (.tuple #[u, .int .i64 0]) ∧ CycOK xs L ∧ Sl w' u 1 vs ∧ (∀ v ∈ vs, IsSl v) ∧ vs.map vlen = L.filter (fun l => !decide (l < 2)) ∧ Below w.heap.size w w' := by
  have sa := ha.isSl
  have la := ha.len
  have HC := Lib.hid (check_calls a xs w ha hp hs)
  have HY := Lib.hid (cyclesO_calls a xs w ha hp hs)
  clear ha hp
  go_enter Try.func51, Try.ntmps51
  go_wp2_with fail
  refine HC.out.mono ?_
  rintro e w' ⟨rfl, rfl⟩
  go_wp2_with fail
  refine HY.out.mono ?_
  rintro e w1 ⟨out, vs, rfl, ho, hsl, hc, hb⟩
  have so := ho.1
  have hcc := cyc_count hc
  rw [List.length_map] at hcc
  have HD := Lib.hid (delV_calls out vs (fun u => decide (vlen u < 2)) _ (enters_v (Go.Proofs.enters_of Try.func111 (by kernel_rfl) rfl)) w.heap.size w1 (own_G ho) hsl (by omega) (fun u W hu => cycles1_calls u W (hsl u hu)))
  have HCC := Lib.hid hc; have HB := Lib.hid hb; have HSL := Lib.hid hsl
  clear hc hb hsl ho
  go_wp2_with fail
  refine HD.out.mono ?_
  rintro e w2 ⟨u, rfl, hu, hb2⟩
  have su := hu.isSl
  have lu := hu.len
  have HU := Lib.hid hu
  have HB2 := Lib.hid (HB.out.trans hb2)
  clear hu hb2
  obtain ⟨vs2, hvs2⟩ : ∃ vs2, vs.filter (fun x => !decide (vlen x < 2)) = vs2 := ⟨_, rfl⟩
  rw [hvs2] at HU lu
  have hmap : vs2.map vlen = (vs.map vlen).filter (fun l => !decide (l < 2)) := by rw [← hvs2, List.filter_map]; rfl
  have hsl2 : ∀ v ∈ vs2, IsSl v := fun v hv => HSL.out v (List.mem_filter.1 (by rw [hvs2]; exact hv)).1
  have HM := Lib.hid hmap; have HS2 := Lib.hid hsl2
  clear hvs2 hmap hsl2
  go_wp2_with fail
  refine (clipV_calls u vs2 _ HU.out.sl).mono ?_
  rintro e w' ⟨⟨v', rfl, hv'⟩, rfl⟩
  have sv' := hv'.isSl
  have HV := Lib.hid hv'
  clear hv'
  go_wp2_with fail
  go_ret2
  exact ⟨_, _, _, rfl, HCC.out, HV.out, HS2.out, HM.out, HB2.out⟩

end Go.Proofs.Ytmcecmnbdcbehaa


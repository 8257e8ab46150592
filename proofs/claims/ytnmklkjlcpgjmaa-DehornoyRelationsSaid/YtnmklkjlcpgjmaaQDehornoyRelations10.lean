/- slices.Clip and slices.Clone of a slice of ints, walked. -/
import Derived.Test.YtnmklkjlcpgjmaaQDehornoyRelations0
import Derived.Test.YtnmklkjlcpgjmaaQDehornoyRelations1
import Derived.Test.YtnmklkjlcpgjmaaQDehornoyRelations2

namespace Go.Proofs.Ytnmklkjlcpgjmaa
open Go.RowKit Go.Sl

theorem clip_own {w : World} {B : Nat} {v : Value} {xs : List Int} (h : OwnI w B v xs) : OwnI w B (vcut v 0 xs.length xs.length 1) xs := by
  have hl := h.len
  have hcap := h.ints.cap
  obtain ⟨a, n, c, rfl, hn, hc, ha⟩ := h.isSl.cases
  have hnl : xs.length = n := by simpa [vlen_mk] using hl.symm
  rw [vcap_mk] at hcap
  rcases Nat.eq_zero_or_pos xs.length with h0 | h0
  · rw [h0]
    refine ⟨⟨rfl, by simp [vcut, vlen, vcap], by simp [vcut, vcap], fun hp => by simp [vcut, vcap] at hp⟩, by simp [vcut, h0], fun hp => by simp [vcut, vcap] at hp⟩
  · obtain ⟨hB, ho', cur, hg, hcs, htake⟩ := h.2.2 (by rw [vcap_mk]; omega)
    obtain ⟨g, o, rfl⟩ := ha (by omega)
    have ho'' : o = 0 := ho'
    subst ho''
    have hcut : vcut (.slice (some ⟨g, 0, none⟩) n c) 0 xs.length xs.length 1 = .slice (some ⟨g, 0, none⟩) xs.length xs.length := by
      have hne : ¬ xs.length = 0 := by omega
      simp [vcut, hne, Addr.add_lit]
    rw [hcut]
    rw [vcap_mk] at hcs
    exact ⟨isSl_mk _ _ _ _ (Nat.le_refl _) (by omega), by simp, fun _ => ⟨hB, rfl, cur, hg, by rw [vcap_mk]; omega, htake⟩⟩

theorem clip_calls (v : Value) (xs : List Int) (B : Nat) (w : World) (h : OwnI w B v xs) :
    Calls Try.prog 32 #[v] w fun e w' => w = w' ∧ ∃ v', e = .returned v' ∧ OwnI w B v' xs := by
  have sv := h.isSl
  have lv := h.len
  have hcap := h.ints.cap
  have H := Lib.hid h; clear h
  go_enter Try.func32, Try.ntmps32
  go_wp2
  go_ret
  exact ⟨rfl, _, rfl, clip_own H.out⟩

set_option maxRecDepth 100000 in
theorem clone_calls (v : Value) (xs : List Int) (w : World) (hv : Ints w v xs) (hl : xs.length ≤ 1000000) :
    Calls Try.prog 16 #[v] w fun e w' => ∃ u, e = .returned u ∧ OwnI w' w.heap.size u xs ∧ Below w.heap.size w w' := by
  obtain ⟨a, n, c, rfl, hn, hc, ha⟩ := hv.isSl.cases
  have lv := hv.len
  rw [vlen_mk] at lv
  cases a with
  | none =>
    have hc0 : c = 0 := by
      rcases Nat.eq_zero_or_pos c with h | h
      · exact h
      · obtain ⟨b, o, hb⟩ := ha h; cases hb
    have hx : xs = [] := List.eq_nil_of_length_eq_zero (by omega)
    subst hc0
    have hn0 : n = 0 := by omega
    subst hn0 hx
    clear hv hn hc ha lv
    have hnil : ∀ wx, (binOp .eql 22 (.slice none 0 0) (.slice none 0 0)).run Try.prog wx = .ok (.bool true) wx := by
      intro wx
      rw [Lib.run_eql_slice_nil wx 22 3 _ 0 0 0 0 Try.underlying22]; rfl
    have hguard : ∀ wx, (eqGuard .eql 22 (.tmp 3) (.const (.slice none 0 0)) (.slice none 0 0) (.slice none 0 0)).run Try.prog wx = .ok () wx := by
      intro wx; simp [eqGuard]
    go_enter Try.func16, Try.ntmps16
    go_wp2
    go_ret
    exact ⟨_, rfl, ownI_nil _ _, Below.refl _ _⟩
  | some b =>
    have hnil : ∀ wx, (binOp .eql 22 (.slice (some b) n c) (.slice none 0 0)).run Try.prog wx = .ok (.bool false) wx := by
      intro wx
      rw [Lib.run_eql_slice_nil wx 22 3 _ n c 0 0 Try.underlying22]; rfl
    have hguard : ∀ wx, (eqGuard .eql 22 (.tmp 3) (.const (.slice none 0 0)) (.slice (some b) n c) (.slice none 0 0)).run Try.prog wx = .ok () wx := by
      intro wx; simp [eqGuard]
    have HV := Lib.hid hv
    have he : OwnI (w.alloc (.cells #[] 3)) w.heap.size (.slice (some ⟨w.heap.size, 0, none⟩) 0 0) [] := ownI_build w _ [] (Nat.le_refl _) (by simp)
    have HE := Lib.hid he
    have HL := Lib.hid lv
    have sv := hv.isSl
    clear hv he lv hn hc ha
    obtain ⟨v, hvv⟩ : ∃ v, v = Value.slice (some b) n c := ⟨_, rfl⟩
    rw [← hvv] at HV hnil hguard sv ⊢
    clear hvv HL
    go_enter Try.func16, Try.ntmps16
    go_wp2_with (at_builtin; refine wpList_concat (v := .slice (some ⟨w.heap.size, 0, none⟩) 0 0) rfl _ _ rfl rfl rfl HE.out (HV.out.alloc _) (by simp) (by simp; omega) ?_; intro o2 z2 ho2 hg2 hr2)
    go_ret
    exact ⟨o2, rfl, by simpa using ho2, ((Below.refl _ _).alloc (Nat.le_refl _) _).grown hg2 (by simp) (fun k hk => by simp [Go.Sl.row] at hk)⟩

end Go.Proofs.Ytnmklkjlcpgjmaa


/- slices.Clip and slices.Clone of a slice of ints, walked. -/
import Derived.Test.YtplekfgadbjgdaaQGroupOrbitStabilizer0
import Derived.Test.YtplekfgadbjgdaaQGroupOrbitStabilizer1
import Derived.Test.YtplekfgadbjgdaaQGroupOrbitStabilizer2

namespace Go.Proofs.Ytplekfgadbjgdaa
open Go.RowKit Go.Sl

theorem clip_own {w : World} {B : Nat} {v : Value} {xs : List Int} (h : OwnI w B v xs) : OwnI w B (vcut v 0 xs.length xs.length 1) xs := by
  have hl := h.len
  have hcap := h.ints.cap
  obtain ⟨a, n, c, rfl, hn, hc, ha⟩ := h.isSl.cases
  have hnl : xs.length = n := by simpa [vlen_mk] using hl.symm
  rw [vcap_mk] at hcap
  rcases Nat.eq_zero_or_pos xs.length with h0 | h0
  · rw [h0]
    refine ⟨⟨rfl, by simp [vcut, vlen, vcap], by simp [vcut, vcap], fun hp => by simp [vcut, vcap] at hp⟩, by simp [vcut, h0], fun hp => by simp [vcut, vcap] at hp⟩
  · obtain ⟨hB, ho', cur, hg, hcs, htake⟩ := h.2.2 (by rw [vcap_mk]; omega)
    obtain ⟨g, o, rfl⟩ := ha (by omega)
    have ho'' : o = 0 := ho'
    subst ho''
    have hcut : vcut (.slice (some ⟨g, 0, none⟩) n c) 0 xs.length xs.length 1 = .slice (some ⟨g, 0, none⟩) xs.length xs.length := by
      have hne : ¬ xs.length = 0 := by omega
      simp [vcut, hne, Addr.add_lit]
    rw [hcut]
    rw [vcap_mk] at hcs
    exact ⟨isSl_mk _ _ _ _ (Nat.le_refl _) (by omega), by simp, fun _ => ⟨hB, rfl, cur, hg, by rw [vcap_mk]; omega, htake⟩⟩

theorem clip_calls (v : Value) (xs : List Int) (B : Nat) (w : World) (h : OwnI w B v xs) :
    Calls Try.prog 99 #[v] w fun e w' => w = w' ∧ ∃ v', e = .returned v' ∧ OwnI w B v' xs := by
  have sv := h.isSl
  have lv := h.len
  have hcap := h.ints.cap
  have H := Lib.hid h; clear h
  go_enter Try.func99, Try.ntmps99
  go_wp2
  go_ret
  exact ⟨rfl, _, rfl, clip_own H.out⟩

end Go.Proofs.Ytplekfgadbjgdaa


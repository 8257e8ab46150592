/- freegroup.Reduced walked. -/
import Derived.Test.YtnkahkahcajahaaFree
import Derived.Test.YtnkahkahcajahaaGrid
namespace Go.Proofs.Ytnkahkahcajahaa
open Go.RowKit Go.Sl

/-- The head of one's own slice, the room behind it kept. -/
theorem own_head {w : World} {B : Nat} {v : Value} {xs : List Int} {k : Nat} (h : OwnI w B v xs) (hk : k ≤ xs.length) (hp : 0 < xs.length) : OwnI w B (vcut v 0 k (vcap v) 1) (xs.take k) ∧ row (vcut v 0 k (vcap v) 1) = row v := by
  have hl := h.len
  have hcap := h.ints.cap
  obtain ⟨hB, ho', cur, hg, hcs, htake⟩ := h.2.2 (by omega)
  obtain ⟨a, n, c, rfl, hn, hc, ha⟩ := h.isSl.cases
  rw [vcap_mk] at hcap hcs
  have hnl : xs.length = n := by simpa [vlen_mk] using hl.symm
  obtain ⟨g, o, rfl⟩ := ha (by omega)
  have ho'' : o = 0 := ho'
  subst ho''
  have hcut : vcut (.slice (some ⟨g, 0, none⟩) n c) 0 k (vcap (.slice (some ⟨g, 0, none⟩) n c)) 1 = .slice (some ⟨g, 0, none⟩) k c := by
    have hne : ¬ c = 0 := by omega
    simp [vcut, hne, Addr.add_lit]
  rw [hcut]
  refine ⟨⟨isSl_mk _ _ _ _ (by omega) hc, by simp; omega, fun _ => ⟨hB, rfl, cur, hg, by rw [vcap_mk]; omega, ?_⟩⟩, ?_⟩
  · have e : ((xs.take k).map (Value.int .i64)).length = k := by simp; omega
    rw [e, List.map_take, ← htake, List.take_take, List.length_map, Nat.min_eq_left hk]
  · rw [row_some (by rw [vcap_mk]; omega), row_some (by rw [vcap_mk]; omega)]; rfl

theorem psh_out {out : List Int} (s : List Int) (x : Int) (h : out = s.reverse) :
    (psh s x).reverse = if 0 < out.length ∧ nth out (out.length - 1) = -x then out.take (out.length - 1) else out ++ [x] := by
  subst h
  cases s with
  | nil => simp [psh]
  | cons y t =>
    have h1 : nth (y :: t).reverse ((y :: t).reverse.length - 1) = y := by
      rw [nth_lt (by simp)]; simp
    have h2 : (y :: t).reverse.take ((y :: t).reverse.length - 1) = t.reverse := by simp
    rw [h1, h2, psh]
    by_cases hy : y = -x
    · rw [if_pos hy, if_pos ⟨by simp, hy⟩]
    · rw [if_neg hy, if_neg (fun h => hy h.2)]; simp

end Go.Proofs.Ytnkahkahcajahaa

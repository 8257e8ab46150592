/- Words: freegroup's exported functions Reduce, Product, Inverse, walked. -/
import Derived.Test.YtplekfgadbjgdaaQDehornoyOrder0
import Derived.Test.YtplekfgadbjgdaaQDehornoyOrder1
import Derived.Test.YtplekfgadbjgdaaQDehornoyOrder2
import Derived.Test.YtplekfgadbjgdaaQDehornoyOrder3
import Derived.Test.YtplekfgadbjgdaaQDehornoyOrder4
import Derived.Test.YtplekfgadbjgdaaQDehornoyOrder5
import Derived.Test.YtplekfgadbjgdaaQDehornoyOrder6
import Derived.Test.YtplekfgadbjgdaaQDehornoyOrder8
import Derived.Test.YtplekfgadbjgdaaQDehornoyOrder11
import Derived.Test.YtplekfgadbjgdaaQDehornoyOrder12
import Derived.Test.YtplekfgadbjgdaaQDehornoyOrder13
import Derived.Test.YtplekfgadbjgdaaQDehornoyOrder14
import Derived.Test.YtplekfgadbjgdaaQDehornoyOrder16

namespace Go.Proofs.Ytplekfgadbjgdaa
open Go.RowKit Go.Sl

theorem letter_bw {top : Int} (h : 0 < top) (x : Int) : letterOf top x ≠ 0 ∧ -top ≤ letterOf top x ∧ letterOf top x ≤ top := by
  have h1 := Int.emod_nonneg x (b := 2 * top) (by omega)
  have h2 := Int.emod_lt_of_pos x (b := 2 * top) (by omega)
  unfold letterOf
  split <;> omega
theorem wordL_bw {n : Int} (h : 1 < n) (raw : List Int) (most : Nat) : BWord n (wordL (n - 1) raw most) := by
  intro x hx
  obtain ⟨y, _, rfl⟩ := List.mem_map.1 hx
  have := letter_bw (top := n - 1) (by omega) y
  omega

end Go.Proofs.Ytplekfgadbjgdaa

namespace Go.Proofs.Ytplekfgadbjgdaa
open Go.RowKit Go.Sl

/-- The head of one's own slice, the room behind it kept. -/
theorem own_head {w : World} {B : Nat} {v : Value} {xs : List Int} {k : Nat} (h : OwnI w B v xs) (hk : k ≤ xs.length) (hp : 0 < xs.length) : OwnI w B (vcut v 0 k (vcap v) 1) (xs.take k) ∧ row (vcut v 0 k (vcap v) 1) = row v := by
  have hl := h.len
  have hcap := h.ints.cap
  obtain ⟨hB, ho', cur, hg, hcs, htake⟩ := h.2.2 (by omega)
  obtain ⟨a, n, c, rfl, hn, hc, ha⟩ := h.isSl.cases
  rw [vcap_mk] at hcap hcs
  have hnl : xs.length = n := by simpa [vlen_mk] using hl.symm
  obtain ⟨g, o, rfl⟩ := ha (by omega)
  have ho'' : o = 0 := ho'
  subst ho''
  have hcut : vcut (.slice (some ⟨g, 0, none⟩) n c) 0 k (vcap (.slice (some ⟨g, 0, none⟩) n c)) 1 = .slice (some ⟨g, 0, none⟩) k c := by
    have hne : ¬ c = 0 := by omega
    simp [vcut, hne, Addr.add_lit]
  rw [hcut]
  refine ⟨⟨isSl_mk _ _ _ _ (by omega) hc, by simp; omega, fun _ => ⟨hB, rfl, cur, hg, by rw [vcap_mk]; omega, ?_⟩⟩, ?_⟩
  · have e : ((xs.take k).map (Value.int .i64)).length = k := by simp; omega
    rw [e, List.map_take, ← htake, List.take_take, List.length_map, Nat.min_eq_left hk]
  · rw [row_some (by rw [vcap_mk]; omega), row_some (by rw [vcap_mk]; omega)]; rfl

theorem psh_out {out : List Int} (s : List Int) (x : Int) (h : out = s.reverse) :
    (psh s x).reverse = if 0 < out.length ∧ nth out (out.length - 1) = -x then out.take (out.length - 1) else out ++ [x] := by
  subst h
  cases s with
  | nil => simp [psh]
  | cons y t =>
    have h1 : nth (y :: t).reverse ((y :: t).reverse.length - 1) = y := by
      rw [nth_lt (by simp)]; simp
    have h2 : (y :: t).reverse.take ((y :: t).reverse.length - 1) = t.reverse := by simp
    rw [h1, h2, psh]
    by_cases hy : y = -x
    · rw [if_pos hy, if_pos ⟨by simp, hy⟩]
    · rw [if_neg hy, if_neg (fun h => hy h.2)]; simp

end Go.Proofs.Ytplekfgadbjgdaa

namespace Go.Proofs.Ytplekfgadbjgdaa
open Go.RowKit Go.Sl

theorem IsWord.small {xs : List Int} (h : IsWord xs) : ∀ x ∈ xs, -1000 ≤ x ∧ x ≤ 1000 := fun x hx => by have := h x hx; omega
theorem IsWord.inv {xs : List Int} (h : IsWord xs) : IsWord (invL xs) := by
  intro x hx
  simp only [invL, List.mem_reverse, List.mem_map] at hx
  obtain ⟨y, hy, rfl⟩ := hx
  have := h y hy
  omega
theorem IsWord.red {xs : List Int} (h : IsWord xs) : IsWord (redL xs) := fun x hx => h x (redL_mem hx)
theorem IsWord.append {xs ys : List Int} (h : IsWord xs) (k : IsWord ys) : IsWord (xs ++ ys) := fun x hx => (List.mem_append.1 hx).elim (h x) (k x)
end Go.Proofs.Ytplekfgadbjgdaa


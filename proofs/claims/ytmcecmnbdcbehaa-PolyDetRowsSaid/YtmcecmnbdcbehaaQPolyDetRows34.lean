/- Arguments as data: what a slice of slices of ints that came in reads as. -/
import Derived.Test.YtmcecmnbdcbehaaQPolyDetRows0
import Derived.Test.YtmcecmnbdcbehaaQPolyDetRows1
import Derived.Test.YtmcecmnbdcbehaaQPolyDetRows2
import Derived.Test.YtmcecmnbdcbehaaQPolyDetRows9
import Derived.Test.YtmcecmnbdcbehaaQPolyDetRows33
import Derived.Deep.Slices
namespace Go.Proofs.Ytmcecmnbdcbehaa
open Go.ChangeShapes Go.WideShapes Go.ChangeAt Go.RowKit Go.Sl

theorem cells_ints : Try.prog.cellsOf 25 = 1 := by kernel_rfl

set_option maxRecDepth 100000 in
theorem ints_of_trod {H : Type} {enc : TypeId × Value → H} {W : World} {b0 fuel : Nat} {v : Value} {x : DataW H × List MemPlace}
    (h : DataW.trod enc Try.prog W b0 (fun _ => true) true fuel 25 [v] = some x) : ∃ xs : List Int, Ints W v xs ∧ ∀ x ∈ xs, I64 x := by
  rcases open_ints Try.underlying25 Try.underlying3 cells_int h with ⟨hcs, hx⟩ | ⟨a, len, cap, zs, hcs, _, hl, hm, hz, hx, hcell, hwz⟩
  · obtain rfl : v = .slice none 0 0 := by simpa using hcs
    exact ⟨[], ints_nil W, by simp⟩
  · obtain rfl : v = .slice (some a) len cap := by simpa using hcs
    simp only [if_true] at hz
    refine ⟨zs.take len, ⟨⟨rfl, hl, hm, fun h0 => ?_⟩, by simp; omega, fun j u hu => ?_⟩, fun x hx => wf_bounds (hwz x (List.mem_of_mem_take hx))⟩
    · simp only [vcap_mk] at h0
      obtain ⟨b, off, spot⟩ := a
      have hspot : spot = none := by simpa [Addr.add] using World.cell?_spot (hcell 0 (by omega))
      subst hspot
      rfl
    · have hj : j < len := by
        have := (List.getElem?_eq_some_iff.1 hu).1
        simp at this; omega
      obtain ⟨b, off, spot⟩ := a
      have hspot : spot = none := by simpa [Addr.add] using World.cell?_spot (hcell 0 (by omega))
      subst hspot
      have h1 := hcell j (by omega)
      rw [Addr.add_lit] at h1
      rw [vat_mk, h1]
      rw [List.map_take, List.getElem?_take, if_pos hj] at hu
      simp at hu
      obtain ⟨a, ha, rfl⟩ := hu
      simp [List.getD, ha]

set_option maxRecDepth 100000 in
theorem arg_rows {H : Type} {enc : TypeId × Value → H} {W : World} {base b0 : Nat} {v : Value} {d : DataW H} {ps : List MemPlace} (hv : Value.okWide Try.prog W .any base 22 v)
    (h : DataW.Trod enc Try.prog W b0 (fun _ => true) true 22 v d ps) : ∃ xss : List (List Int), Rows2 W v xss ∧ ∀ r ∈ xss, ∀ x ∈ r, I64 x := by
  obtain ⟨a0, len, cap, rfl⟩ := okWide_slice Try.underlying22 hv
  obtain ⟨fuel, hf⟩ := h
  rcases Go.Deep.open_slice1 Try.underlying22 cells_ints hf with ⟨hcs, hx⟩ | ⟨a, len', cap', m, n, V, D, Pl, hcs, _, hl, hm, hmm, hx, hel⟩
  · simp [Value.cells] at hcs
    obtain ⟨rfl, rfl, rfl⟩ := hcs
    exact ⟨[], rows2_nil W, by simp⟩
  · simp [Value.cells] at hcs
    obtain ⟨rfl, rfl, rfl⟩ := hcs
    simp only [if_true] at hmm
    subst hmm
    have h1 : ∀ i, ∃ xs : List Int, i < len → Ints W (V i) xs ∧ ∀ x ∈ xs, I64 x := fun i => by
      by_cases hi : i < len
      · obtain ⟨xs, h⟩ := ints_of_trod (hel i (by omega)).2
        exact ⟨xs, fun _ => h⟩
      · exact ⟨[], fun h => absurd h hi⟩
    obtain ⟨X, hX⟩ := Classical.skolem.1 h1
    refine ⟨(List.range len).map X, ⟨(List.range len).map V, ⟨⟨rfl, hl, hm, fun h0 => ?_⟩, by simp, fun j u hu => ?_⟩, by simp, fun i hi => ?_⟩, fun r hr x hx => ?_⟩
    · simp only [vcap_mk] at h0
      obtain ⟨b, off, spot⟩ := a
      have hspot : spot = none := by simpa [Addr.add] using World.cell?_spot (hel 0 (by omega)).1
      subst hspot
      rfl
    · have hj : j < len := by
        have := (List.getElem?_eq_some_iff.1 hu).1
        simpa using this
      obtain ⟨b, off, spot⟩ := a
      have hspot : spot = none := by simpa [Addr.add] using World.cell?_spot (hel 0 (by omega)).1
      subst hspot
      have h1 := (hel j (by omega)).1
      rw [Addr.add_lit] at h1
      rw [vat_mk]
      rw [List.getElem?_map, List.getElem?_range hj] at hu
      simp at hu
      rw [← hu]; exact h1
    · rw [List.length_map, List.length_range] at hi
      have e1 : nthv ((List.range len).map V) i = V i := by rw [nthv_lt (by simpa using hi)]; simp
      have e2 : nthr ((List.range len).map X) i = X i := by rw [nthr_lt (by simpa using hi)]; simp
      rw [e1, e2]; exact (hX i hi).1
    · obtain ⟨i, hi, rfl⟩ := List.mem_map.1 hr
      exact (hX i (List.mem_range.1 hi)).2 x hx

end Go.Proofs.Ytmcecmnbdcbehaa


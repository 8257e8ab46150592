/- timbkeep1.turn and slices.Clone of rows, walked. -/
import Derived.Test.YtdmogoeafjpphaaTurnLaw
import Derived.Test.YtdmogoeafjpphaaPair
import Derived.Lib.LazyBuf
namespace Go.Proofs.Ytdmogoeafjpphaa
open Go.RowKit Go.Sl

set_option maxRecDepth 100000 in
theorem cloneRows_calls (v : Value) (vs : List Value) (xss : List (List Int)) (w : World) (hv : RowsV w v vs xss) (h0 : 0 < xss.length) (hl : xss.length ≤ 1000) :
    Calls Try.prog 61 #[v] w fun e w' => ∃ u, e = .returned u ∧ Own w' w.heap.size 25 1 u vs ∧ Below w.heap.size w w' := by
  have sv := hv.isSl
  have lv := hv.len
  have hvl := hv.2.1
  have hrows : ∀ i, i < vs.length → (nthv vs i).oneCell' = true := fun i hi => oneCell'_sl (hv.2.2 i (by omega)).1
  have hone : ∀ u ∈ vs, u.oneCell' = true := by
    intro u hu
    obtain ⟨i, hi, rfl⟩ := List.getElem_of_mem hu
    have := hrows i hi
    rwa [nthv_lt hi] at this
  have hnil : ∀ wx, (binOp .eql 22 v (.slice none 0 0)).run Try.prog wx = .ok (.bool false) wx := by
    intro wx
    obtain ⟨a, n, c, rfl, hn, hc, ha⟩ := sv.cases
    simp only [vlen_mk] at lv
    obtain ⟨b, o, rfl⟩ := ha (by omega)
    rw [Lib.run_eql_slice_nil wx 22 25 _ n c 0 0 Try.underlying22]; rfl
  have hguard : ∀ wx, (eqGuard .eql 22 (.tmp 3) (.const (.slice none 0 0)) v (.slice none 0 0)).run Try.prog wx = .ok () wx := by
    intro wx
    obtain ⟨a, n, c, rfl, hn, hc, ha⟩ := sv.cases
    simp [eqGuard]
  obtain ⟨i, hi, hz0, hz1, hz2⟩ := info_parts info_slice
  have HS := Lib.hid hv.1
  have HV := Lib.hid hvl
  clear hv hvl hrows
  have hle : vlen v ≤ 1000 := by omega
  have HL := Lib.hid lv; clear lv
  go_enter Try.func61, Try.ntmps61
  have he : Own (w.alloc (.cells #[] 25)) w.heap.size 25 1 (.slice (some ⟨w.heap.size, 0, none⟩) 0 0) [] := ⟨isSl_mk _ _ _ _ (Nat.le_refl _) (Nat.zero_le _), by simp, fun h => absurd h (by simp)⟩
  have HE := Lib.hid he; clear he
  go_wp2_with (at_builtin; refine wpList_append_sl (v := .slice (some ⟨w.heap.size, 0, none⟩) 0 0) (y := v) rfl _ _ _ rfl w.heap.size 25 i _ 1 24 Try.underlying22 hi hz0 hz1 hz2 rfl (by decide) rfl rfl HE.out (HS.out.alloc _) hone (by simp only [vlen_mk, maxLen]; omega) (by simp only [vlen_mk]; omega) (by simp) ?_; intro o2 z2 ho2 hg2 hr2)
  go_ret
  exact ⟨o2, rfl, by simpa using ho2, ((Below.refl _ _).alloc (Nat.le_refl _) _).grown hg2 (by simp) (fun k hk => by simp [row] at hk)⟩

end Go.Proofs.Ytdmogoeafjpphaa

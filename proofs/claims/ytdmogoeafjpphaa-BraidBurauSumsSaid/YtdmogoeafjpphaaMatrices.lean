/- Comparing matrices of polynomials: slices.EqualFunc twice, and the statements' matrices: equal ones. -/
import Derived.Test.YtdmogoeafjpphaaPolyRow
import Derived.Test.YtdmogoeafjpphaaLaurent
import Derived.Test.YtdmogoeafjpphaaPair
import Derived.Test.YtdmogoeafjpphaaKeeps
namespace Go.Proofs.Ytdmogoeafjpphaa
open Go.RowKit Go.Sl

theorem enters_m {k : FuncId} (h : Go.Proofs.Enters Try.prog k) : ∀ args w, (callFunc k args).run Try.prog w = .ok (.enter k args) w := h
/-- A matrix of polynomials that may be read. -/
structure MRead (W : World) (v : Value) (vs : List Value) (m : List (List LP)) : Prop where
  sl : Sl W v 1 vs
  len : vs.length = m.length
  row : ∀ i, i < m.length → ∃ us, PRead W (nthv vs i) us (nthm m i)
theorem PMat.mread {W : World} {B : Nat} {v : Value} {vs : List Value} {m : List (List LP)} (h : PMat W B v vs m) (hl : vs.length = m.length) : MRead W v vs m :=
  ⟨h.own.sl, hl, fun i hi => let ⟨us, k⟩ := h.row i hi; ⟨us, k.read⟩⟩
theorem MRead.isSl {W : World} {v : Value} {vs : List Value} {m : List (List LP)} (h : MRead W v vs m) : IsSl v := h.sl.1
theorem MRead.vlen {W : World} {v : Value} {vs : List Value} {m : List (List LP)} (h : MRead W v vs m) : Go.Sl.vlen v = m.length := by have := h.sl.2.1; rw [h.len] at this; omega
theorem MRead.below {W W' : World} {v : Value} {vs : List Value} {m : List (List LP)} (h : MRead W v vs m) (hb : Below W.heap.size W W') : MRead W' v vs m :=
  ⟨h.sl.below hb, h.len, fun i hi => let ⟨us, k⟩ := h.row i hi; ⟨us, k.below hb⟩⟩
theorem MRead.cell {W : World} {v : Value} {vs : List Value} {m : List (List LP)} (h : MRead W v vs m) {i : Nat} (hi : i < m.length) : W.cell? (vat v i) = some (nthv vs i) := by
  have hi' : i < vs.length := by rw [h.len]; exact hi
  rw [nthv_lt hi']; exact h.sl.cell hi'

set_option maxRecDepth 100000 in
set_option maxHeartbeats 2000000 in
theorem rowsame_yes (u v : Value) (us vs : List Value) (ps : List LP) (w : World) (hu : PRead w u us ps) (hv : PRead w v vs ps) :
    Calls Try.prog 87 #[u, v, .func (.func 23) #[] #[]] w fun e w' => e = .returned (.bool true) ∧ Below w.heap.size w w' := by
  have hk := enters_m (Go.Proofs.enters_of Try.func23 (by kernel_rfl) rfl)
  have su := hu.isSl
  have lu := hu.vlen
  have sv := hv.isSl
  have lv := hv.vlen
  have i63 := su.i63
  rw [lu] at i63
  have HU := Lib.hid hu; have HV := Lib.hid hv
  clear hu hv
  go_enter Try.func87, Try.ntmps87
  go_wp2_with fail
  go_loopw [17] (fun i wr => ∃ k : Nat, k ≤ ps.length ∧ i = .int .i64 k ∧ Below w.heap.size w wr) (fun i _ => ps.length - (intOf i).toNat)
  case atStart => exact ⟨0, Nat.zero_le _, rfl, Below.refl _ _⟩
  case round =>
    obtain ⟨k, hk', rfl, hb⟩ := hrel
    by_cases hlt : k < ps.length
    · have ru := HU.out.below hb
      have rv := HV.out.below hb
      have c0 := ru.low hlt; have c1 := ru.c hlt
      have d0 := rv.low hlt; have d1 := rv.c hlt
      have su1 := (ru.each k hlt).isSl; have sv1 := (rv.each k hlt).isSl
      have HEU := Lib.hid (ru.each k hlt); have HEV := Lib.hid (rv.each k hlt)
      have HB := Lib.hid hb
      have d0' : ∀ o, (wr.alloc o).cell? (vat v (k * 2)) = some (.int .i64 (nthp ps k).low) := fun o => (Below.cell ((Below.refl wr.heap.size wr).alloc (Nat.le_refl _) o) (World.block_lt_of_cell? wr _ d0)).trans d0
      have d1' : ∀ o, (wr.alloc o).cell? (vat v (k * 2 + 1)) = some (nthv vs k) := fun o => (Below.cell ((Below.refl wr.heap.size wr).alloc (Nat.le_refl _) o) (World.block_lt_of_cell? wr _ d1)).trans d1
      clear ru rv hb
      go_wp2_with fail
      refine (same_yes (nthp ps k) (nthp ps k) _ _ _ ((HEU.out.alloc _).alloc _) ((HEV.out.alloc _).alloc _) rfl).mono ?_
      rintro e w' ⟨rfl, hb'⟩
      have HB2 := Lib.hid (Below.chain HB.out (Below.chain (((Below.refl _ _).alloc (Nat.le_refl _) _).alloc (by simp) _) hb')); clear hb'
      clear d0' d1' c0 c1 d0 d1
      go_wp2_with fail
      go_roundw
      case rel => exact ⟨k + 1, by omega, by go_num, HB2.out⟩
      case measure => simp [intOf]; omega
    · have HB := Lib.hid hb; clear hb
      go_wp2_with fail
      go_ret
      exact ⟨rfl, HB.out⟩

theorem matrows1_yes (u v : Value) (us vs : List Value) (ps : List LP) (w : World) (hu : PRead w u us ps) (hv : PRead w v vs ps) :
    Calls Try.prog 86 #[u, v] w fun e w' => e = .returned (.bool true) ∧ Below w.heap.size w w' := by
  have su := hu.isSl
  have sv := hv.isSl
  have HC := Lib.hid (rowsame_yes u v us vs ps w hu hv)
  clear hu hv
  go_enter Try.func86, Try.ntmps86
  go_wp2_with fail
  refine HC.out.mono ?_
  rintro e w' ⟨rfl, hb⟩
  have HB := Lib.hid hb; clear hb
  go_wp2_with fail
  go_ret
  exact ⟨rfl, HB.out⟩
set_option maxRecDepth 100000 in
set_option maxHeartbeats 2000000 in
theorem matfunc_yes (u v : Value) (us vs : List Value) (m : List (List LP)) (w : World) (hu : MRead w u us m) (hv : MRead w v vs m) :
    Calls Try.prog 85 #[u, v, .func (.func 86) #[] #[]] w fun e w' => e = .returned (.bool true) ∧ Below w.heap.size w w' := by
  have hk := enters_m (Go.Proofs.enters_of Try.func86 (by kernel_rfl) rfl)
  have su := hu.isSl
  have lu := hu.vlen
  have sv := hv.isSl
  have lv := hv.vlen
  have i63 := su.i63
  rw [lu] at i63
  have HU := Lib.hid hu; have HV := Lib.hid hv
  clear hu hv
  go_enter Try.func85, Try.ntmps85
  go_wp2_with fail
  go_loopw [17] (fun i wr => ∃ k : Nat, k ≤ m.length ∧ i = .int .i64 k ∧ Below w.heap.size w wr) (fun i _ => m.length - (intOf i).toNat)
  case atStart => exact ⟨0, Nat.zero_le _, rfl, Below.refl _ _⟩
  case round =>
    obtain ⟨k, hk', rfl, hb⟩ := hrel
    by_cases hlt : k < m.length
    · have ru := HU.out.below hb
      have rv := HV.out.below hb
      have c0 := ru.cell hlt
      have c1 := rv.cell hlt
      obtain ⟨os, ha⟩ := ru.row k hlt
      obtain ⟨bs, hb'⟩ := rv.row k hlt
      have sa := ha.isSl
      have sb := hb'.isSl
      have HC := Lib.hid (matrows1_yes _ _ os bs _ wr ha hb')
      have HB := Lib.hid hb
      clear ru rv hb ha hb'
      go_wp2_with fail
      refine HC.out.mono ?_
      rintro e w' ⟨rfl, hb'⟩
      have HB2 := Lib.hid (Below.chain HB.out hb'); clear hb'
      go_wp2_with fail
      go_roundw
      case rel => exact ⟨k + 1, by omega, by go_num, HB2.out⟩
      case measure => simp [intOf]; omega
    · have HB := Lib.hid hb; clear hb
      go_wp2_with fail
      go_ret
      exact ⟨rfl, HB.out⟩
theorem matrices_yes (u v : Value) (us vs : List Value) (m : List (List LP)) (w : World) (hu : MRead w u us m) (hv : MRead w v vs m) :
    Calls Try.prog 32 #[u, v] w fun e w' => e = .returned (.bool true) ∧ Below w.heap.size w w' := by
  have su := hu.isSl
  have sv := hv.isSl
  have HC := Lib.hid (matfunc_yes u v us vs m w hu hv)
  clear hu hv
  go_enter Try.func32, Try.ntmps32
  go_wp2_with fail
  refine HC.out.mono ?_
  rintro e w' ⟨rfl, hb⟩
  have HB := Lib.hid hb; clear hb
  go_wp2_with fail
  go_ret
  exact ⟨rfl, HB.out⟩

end Go.Proofs.Ytdmogoeafjpphaa

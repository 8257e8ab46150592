/- Moves between closed braids: markov.part, local, last, perform, Apply, walked. -/
import Derived.Test.YtmcecmnbdcbehaaQMarkovLocal0
import Derived.Test.YtmcecmnbdcbehaaQMarkovLocal1
import Derived.Test.YtmcecmnbdcbehaaQMarkovLocal2
import Derived.Test.YtmcecmnbdcbehaaQMarkovLocal3
import Derived.Test.YtmcecmnbdcbehaaQMarkovLocal4
import Derived.Test.YtmcecmnbdcbehaaQMarkovLocal5
import Derived.Test.YtmcecmnbdcbehaaQMarkovLocal6
import Derived.Test.YtmcecmnbdcbehaaQMarkovLocal9
import Derived.Test.YtmcecmnbdcbehaaQMarkovLocal10
import Derived.Test.YtmcecmnbdcbehaaQMarkovLocal11
import Derived.Test.YtmcecmnbdcbehaaQMarkovLocal13
import Derived.Test.YtmcecmnbdcbehaaQMarkovLocal14
import Derived.Maps.OwnOps
import Derived.StillTailTactics
import Derived.Deep.RegionHeld3
import Derived.RangeFuncNested
import Derived.RangeFuncBound
import Derived.RangeFuncCalls
import Derived.RangeFuncLeaves
import Derived.RangeFuncBox
import Derived.Shelf.Abstract
import Derived.Shelf.RegionOpen
import Derived.OwnWalkIn
import Derived.TacticsInMore
import Derived.LoopNIn
import Derived.LoopIn
import Derived.Maps.AppendAt
namespace Go.Proofs.Ytmcecmnbdcbehaa
open Go.RowKit Go.Sl Go.Maps

theorem m_sl3 (w : World) (u v x : Value) (e : TypeId) : Sl (w.alloc (.cells #[u, v, x] e)) (.slice (some ⟨w.heap.size, 0, none⟩) 3 3) 1 [u, v, x] := by
  refine ⟨isSl_mk _ _ _ _ (Nat.le_refl _) (by unfold maxLen; omega), by simp, fun j y hj => ?_⟩
  match j, hj with
  | 0, hj =>
    simp at hj; subst hj
    exact cell_of_row (w.alloc (.cells #[u, v, x] e)) w.heap.size 0 #[u, v, x] e (0, 0) (heap_alloc_new w (.cells #[u, v, x] e))
  | 1, hj =>
    simp at hj; subst hj
    exact cell_of_row (w.alloc (.cells #[u, v, x] e)) w.heap.size 1 #[u, v, x] e (0, 0) (heap_alloc_new w (.cells #[u, v, x] e))
  | 2, hj =>
    simp at hj; subst hj
    exact cell_of_row (w.alloc (.cells #[u, v, x] e)) w.heap.size 2 #[u, v, x] e (0, 0) (heap_alloc_new w (.cells #[u, v, x] e))
  | j + 3, hj => simp at hj
theorem m_rowsV3 {w : World} {u v x : Value} {xs ys zs : List Int} (h : Ints w u xs) (k : Ints w v ys) (l : Ints w x zs) : RowsV (w.alloc (.cells #[u, v, x] 25)) (.slice (some ⟨w.heap.size, 0, none⟩) 3 3) [u, v, x] [xs, ys, zs] := by
  refine ⟨m_sl3 w u v x _, rfl, fun i hi => ?_⟩
  simp only [List.length_cons, List.length_nil] at hi
  rcases (show i = 0 ∨ i = 1 ∨ i = 2 by omega) with rfl | rfl | rfl
  · exact h.alloc _
  · exact k.alloc _
  · exact l.alloc _

theorem m_same {a b : Prop} [Decidable a] [Decidable b] (h : a ↔ b) : (decide a == decide b) = true := by
  by_cases ha : a <;> by_cases hb : b <;> simp_all
theorem m_diff {a b : Prop} [Decidable a] [Decidable b] (h : ¬ (a ↔ b)) : (decide a == decide b) = false := by
  by_cases ha : a <;> by_cases hb : b <;> simp_all

theorem part_some (v : Value) (xs : List Int) (j c : Nat) (w : World) (hv : Ints w v xs) (hl : xs.length ≤ 1000) (hc : c ≤ 3) (hj : j ≤ 1000) (h : j + c ≤ xs.length) :
    Calls Try.prog 180 #[v, .int .i64 j, .int .i64 c] w fun e w' => e = .returned (.tuple #[vcut v j (j + c) (vcap v) 1, .bool true]) ∧ w = w' := by
  have sv := hv.isSl
  have lv := hv.len
  have hcap := hv.cap
  clear hv
  go_enter Try.func180, Try.ntmps180
  go_wp2_with fail
  go_ret2
  exact ⟨rfl, rfl⟩
theorem part_none (v : Value) (xs : List Int) (j c : Nat) (w : World) (hv : Ints w v xs) (hl : xs.length ≤ 1000) (hc : c ≤ 3) (hj : j ≤ 1000) (h : ¬ j + c ≤ xs.length) :
    Calls Try.prog 180 #[v, .int .i64 j, .int .i64 c] w fun e w' => e = .returned (.tuple #[.slice none 0 0, .bool false]) ∧ w = w' := by
  have sv := hv.isSl
  have lv := hv.len
  have hcap := hv.cap
  clear hv
  go_enter Try.func180, Try.ntmps180
  go_wp2_with fail
  go_ret2
  exact ⟨rfl, rfl⟩

theorem mlaw3 : Keyed Try.prog 3 := int_keyed Try.underlying3
theorem mzero3 (w : World) : (zeroValue 3).run Try.prog w = .ok (.int .i64 0) w := by kernel_rfl

/-- The map of the numbers of letters, as local writes it: what is read of it. -/
theorem mmap (w : World) : ∃ u1 u2 u3 u4 : World,
    (Instr.mapUpdate 181 (.map (some w.heap.size)) (.int .i64 1) (.int .i64 0)).run Try.prog (w.alloc (.map #[] 0)) = .ok () u1
    ∧ (Instr.mapUpdate 181 (.map (some w.heap.size)) (.int .i64 2) (.int .i64 2)).run Try.prog u1 = .ok () u2
    ∧ (Instr.mapUpdate 181 (.map (some w.heap.size)) (.int .i64 3) (.int .i64 2)).run Try.prog u2 = .ok () u3
    ∧ (Instr.mapUpdate 181 (.map (some w.heap.size)) (.int .i64 4) (.int .i64 3)).run Try.prog u3 = .ok () u4
    ∧ Below w.heap.size w u4 ∧ ∀ k : Nat, 1 ≤ k → k ≤ 4 → (Instr.lookup 181 (.map (some w.heap.size)) (.int .i64 k) false).run Try.prog u4 = .ok (.int .i64 (mcnt k)) u4 := by
  have h0 := World.ownsMap_made w Try.prog 3 (plainElem (H := Unit) Try.prog 3)
  have pe : ∀ x : Int, (Lit.int .i64 x).wf = true → plainElem (H := Unit) Try.prog 3 (.int .i64 x) = some (.lit (.int .i64 x), []) := fun x hx => plainElem_int Try.underlying3 hx
  have kk : ∀ x : Int, (Lit.int .i64 x).wf = true → keyOf Try.prog 3 (.int .i64 x) = some (.int .i64 x) := fun x hx => keyOf_int_mk Try.underlying3 hx
  obtain ⟨u1, r1, o1, g1⟩ := h0.update mlaw3 Try.underlying181 (by unfold maxLen; omega) (kk 1 rfl) (pe 0 rfl)
  obtain ⟨u2, r2, o2, g2⟩ := o1.update mlaw3 Try.underlying181 (by unfold maxLen; omega) (kk 2 rfl) (pe 2 rfl)
  obtain ⟨u3, r3, o3, g3⟩ := o2.update mlaw3 Try.underlying181 (by unfold maxLen; omega) (kk 3 rfl) (pe 2 rfl)
  obtain ⟨u4, r4, o4, g4⟩ := o3.update mlaw3 Try.underlying181 (by unfold maxLen; omega) (kk 4 rfl) (pe 3 rfl)
  have hr : ∀ k, some w.heap.size = some k → w.heap.size ≤ k := fun k hk => by cases hk; exact Nat.le_refl _
  have b0 : Below w.heap.size w (w.alloc (.map #[] 0)) := (Below.refl _ _).alloc (Nat.le_refl _) _
  have b1 := b0.grown g1 b0.size hr
  have b2 := b1.grown g2 b1.size hr
  have b3 := b2.grown g3 b2.size hr
  have b4 := b3.grown g4 b3.size hr
  refine ⟨u1, u2, u3, u4, r1, r2, r3, r4, b4, fun k hk1 hk2 => ?_⟩
  have hz := mzero3 u4
  rcases (show k = 1 ∨ k = 2 ∨ k = 3 ∨ k = 4 by omega) with rfl | rfl | rfl | rfl
  · obtain ⟨c, hrun, hat, -⟩ := o4.lookup_int mlaw3 Try.underlying181 Try.underlying3 hz (kk 1 rfl)
    have hat' : DataW.lit (H := Unit) (.int .i64 0) = .lit (.int .i64 c) := hat
    cases hat'
    exact hrun
  · obtain ⟨c, hrun, hat, -⟩ := o4.lookup_int mlaw3 Try.underlying181 Try.underlying3 hz (kk 2 rfl)
    have hat' : DataW.lit (H := Unit) (.int .i64 2) = .lit (.int .i64 c) := hat
    cases hat'
    exact hrun
  · obtain ⟨c, hrun, hat, -⟩ := o4.lookup_int mlaw3 Try.underlying181 Try.underlying3 hz (kk 3 rfl)
    have hat' : DataW.lit (H := Unit) (.int .i64 2) = .lit (.int .i64 c) := hat
    cases hat'
    exact hrun
  · obtain ⟨c, hrun, hat, -⟩ := o4.lookup_int mlaw3 Try.underlying181 Try.underlying3 hz (kk 4 rfl)
    have hat' : DataW.lit (H := Unit) (.int .i64 3) = .lit (.int .i64 c) := hat
    cases hat'
    exact hrun

set_option maxHeartbeats 2000000 in
set_option maxRecDepth 100000 in
theorem local1_some (n : Int) (v : Value) (xs : List Int) (j : Nat) (l : Int) (w : World) (hv : Ints w v xs) (hn : 1 ≤ n) (hn6 : n ≤ 6) (hl : xs.length ≤ 1000) (hx : ∀ x ∈ xs, -1000 ≤ x ∧ x ≤ 1000) (hl1 : -1000 ≤ l) (hl2 : l ≤ 1000) (hj : j ≤ 1000) (hl0 : l ≠ 0) (hl3 : -n < l) (hl4 : l < n) (hjl : j ≤ xs.length) :
    Calls Try.prog 149 #[.int .i64 n, v, .agg #[.int .i64 1, .int .i64 j, .int .i64 l]] w fun e w' => ∃ u, e = .returned (.tuple #[u, .int .i64 0]) ∧ OwnI w' w.heap.size u (xs.take j ++ [l, -l] ++ xs.drop j) ∧ Below w.heap.size w w' := by
  have hmm := @run_makeMap Try.prog
  have hs1 : (w.alloc (.cells #[.int .i64 1, .int .i64 j, .int .i64 l] 57)).heap.size = w.heap.size + 1 := by simp
  obtain ⟨u1, u2, u3, u4, r1, r2, r3, r4, b4, hlook⟩ := mmap (w.alloc (.cells #[.int .i64 1, .int .i64 j, .int .i64 l] 57))
  have r5 : (Instr.lookup 181 (.map (some (w.heap.size + 1))) (.int .i64 1) false).run Try.prog u4 = .ok (.int .i64 0) u4 := by have := hlook 1 (by decide) (by decide); rw [hs1] at this; exact this
  rw [hs1] at r1 r2 r3 r4
  have hb1 : Below w.heap.size w (w.alloc (.cells #[.int .i64 1, .int .i64 j, .int .i64 l] 57)) := (Below.refl _ _).alloc (Nat.le_refl _) _
  have hb4 : Below w.heap.size w u4 := Below.chain hb1 b4
  have c0 : u4.cell? ⟨w.heap.size, 0, none⟩ = some (.int .i64 1) := by rw [b4.cell (by rw [hs1]; exact Nat.lt_succ_self _)]; simp [go_sem]
  have c1 : u4.cell? ⟨w.heap.size, 1, none⟩ = some (.int .i64 j) := by rw [b4.cell (by rw [hs1]; exact Nat.lt_succ_self _)]; simp [go_sem]
  have c2 : u4.cell? ⟨w.heap.size, 2, none⟩ = some (.int .i64 l) := by rw [b4.cell (by rw [hs1]; exact Nat.lt_succ_self _)]; simp [go_sem]
  have sv := hv.isSl
  have lv := hv.len
  have hcap := hv.cap
  have hv4 := hv.below hb4
  have HV := Lib.hid hv4
  have HX := Lib.hid hx
  have HB := Lib.hid hb4
  have hbs : w.heap.size + 1 ≤ u4.heap.size := by rw [← hs1]; exact b4.size
  have ne4 : w.heap.size < u4.heap.size := by omega
  have hlc : Below u4.heap.size u4 (u4.alloc (.cells #[.int .i64 l, .int .i64 (-l)] 3)) := (Below.refl _ _).alloc (Nat.le_refl _) _
  have d0 : (u4.alloc (.cells #[.int .i64 l, .int .i64 (-l)] 3)).cell? ⟨w.heap.size, 0, none⟩ = some (.int .i64 1) := (hlc.cell ne4).trans c0
  have d1 : (u4.alloc (.cells #[.int .i64 l, .int .i64 (-l)] 3)).cell? ⟨w.heap.size, 1, none⟩ = some (.int .i64 j) := (hlc.cell ne4).trans c1
  have hc1 := hv4.cut (l := 0) (r := j) (m := vcap v) (Nat.zero_le _) (by omega) (by omega) (by omega)
  have hc2 := hv4.cut (l := j) (r := xs.length) (m := vcap v) (by omega) (Nat.le_refl _) (by omega) (by omega)
  have sc1 := hc1.isSl
  have sc2 := hc2.isSl
  have HC1 := Lib.hid (hc1.below hlc)
  have HC2 := Lib.hid (hc2.below hlc)
  have HLC := Lib.hid (Below.chain hb4 hlc)
  have e0 : (u4.alloc (.cells #[.int .i64 l, .int .i64 (-l)] 3)).drew.cell? ⟨w.heap.size, 0, none⟩ = some (.int .i64 1) := d0
  have e1 : (u4.alloc (.cells #[.int .i64 l, .int .i64 (-l)] 3)).drew.cell? ⟨w.heap.size, 1, none⟩ = some (.int .i64 j) := d1
  have hlit : Ints (u4.alloc (.cells #[.int .i64 l, .int .i64 (-l)] 3)) (.slice (some ⟨u4.heap.size, 0, none⟩) 2 2) [l, -l] := ints_lit [l, -l] rfl rfl rfl (by simp)
  have HL := Lib.hid hlit
  clear hv hx hb1 hb4 b4 hlook hs1 hv4 hc1 hc2 hlc hlit
  go_enter Try.func149, Try.ntmps149
  go_wp2_with fail
  refine (part_some v xs j 0 _ HV.out hl (by decide) hj (by omega)).mono ?_
  rintro e w' ⟨rfl, rfl⟩
  go_wp2_with fail
  refine (bletter_calls n l _ (by omega) hl0 hl3 hl4).mono ?_
  rintro e w' ⟨rfl, rfl⟩
  go_wp2_with fail
  have q1 : j ≤ vcap v := by omega
  have q2 : IntKind.i64.wrap ((j : Int) + 0) = (j : Int) + 0 := IntWalk.i64_in _ ⟨by omega, by omega⟩
  have q3 : (j : Int) + 0 ≤ (xs.length : Int) := by omega
  have q4 : 0 ≤ (j : Int) + 0 := by omega
  have q5 : ((j : Int) + 0).toNat = j + 0 := by omega
  have q6 : xs.length ≤ vcap v := hcap
  have q8 : IntKind.i64.wrap (j : Int) = (j : Int) := IntWalk.i64_in _ ⟨by omega, by omega⟩
  have q9 : (j : Int) ≤ (xs.length : Int) := by omega
  have q10 : (0 : Int) ≤ (j : Int) := by omega
  have q11 : j ≤ xs.length := by omega
  have q12 : (xs.length : Int) ≤ ((vcap v : Nat) : Int) := by omega
  have q7 : j + 0 ≤ vcap v := by omega
  obtain ⟨x1, x2, x3, hx1, -⟩ := sc1.cases
  obtain ⟨y1, y2, y3, hy1, -⟩ := sc2.cases
  have HC1' := Lib.hid HC1.out
  have HC2' := Lib.hid HC2.out
  rw [hx1] at HC1'
  rw [hy1] at HC2'
  obtain ⟨V, hV⟩ : ∃ V, V = (u4.alloc (.cells #[.int .i64 l, .int .i64 (-l)] 3)) := ⟨_, rfl⟩
  rw [← hV]
  have v0 : V.cell? ⟨w.heap.size, 0, none⟩ = some (.int .i64 1) := by rw [hV]; exact e0
  have v1 : V.cell? ⟨w.heap.size, 1, none⟩ = some (.int .i64 j) := by rw [hV]; exact e1
  have z1 : Ints V.drew (.slice x1 x2 x3) ((xs.drop 0).take (j - 0)) := by rw [hV]; (first | exact HC1'.out | exact HC1'.out.below (Below.refl _ _).drew | exact HC1'.out.below ((Below.drawn _).drew))
  have z2 : Ints V.drew (.slice (some ⟨u4.heap.size, 0, none⟩) 2 2) [l, -l] := by rw [hV]; (first | exact HL.out | exact HL.out.below (Below.refl _ _).drew | exact HL.out.below ((Below.drawn _).drew))
  have z3 : Ints V.drew (.slice y1 y2 y3) ((xs.drop j).take (xs.length - j)) := by rw [hV]; (first | exact HC2'.out | exact HC2'.out.below (Below.refl _ _).drew | exact HC2'.out.below ((Below.drawn _).drew))
  have zb : Below w.heap.size w V.drew := by rw [hV]; (first | exact HLC.out | exact HLC.out.drew | exact Below.chain HLC.out ((Below.drawn _).drew))
  have ZC := Lib.hid (concat_calls _ [.slice x1 x2 x3, .slice (some ⟨u4.heap.size, 0, none⟩) 2 2, .slice y1 y2 y3] [(xs.drop 0).take (j - 0), [l, -l], (xs.drop j).take (xs.length - j)] _ (m_rowsV3 z1 z2 z3) (by simp; omega))
  have ZB := Lib.hid (Below.chain zb ((Below.refl _ _).alloc (Nat.le_refl _) (.cells #[.slice x1 x2 x3, .slice (some ⟨u4.heap.size, 0, none⟩) 2 2, .slice y1 y2 y3] 25)))
  clear hV z1 z2 z3 zb
  go_still_tail 11, (by kernel_rfl)
  go_wp2_with fail
  refine ZC.out.mono ?_
  rintro e w' ⟨o, rfl, ho, hbo⟩
  have so := ho.isSl
  have he : [(xs.drop 0).take (j - 0), [l, -l], (xs.drop j).take (xs.length - j)].flatten = xs.take j ++ [l, -l] ++ xs.drop j := by
    rw [List.take_of_length_le (l := xs.drop j) (by simp)]; simp
  rw [he] at ho
  have HO := Lib.hid (ho.low (by have := ZB.out.size; exact this))
  have HBO := Lib.hid (Below.chain ZB.out hbo)
  clear ho hbo
  go_wp2_with fail
  go_ret2
  exact ⟨_, rfl, HO.out, HBO.out⟩

set_option maxHeartbeats 2000000 in
set_option maxRecDepth 100000 in
theorem local1_none (n : Int) (v : Value) (xs : List Int) (j : Nat) (l : Int) (w : World) (hv : Ints w v xs) (hn : 1 ≤ n) (hn6 : n ≤ 6) (hl : xs.length ≤ 1000) (hx : ∀ x ∈ xs, -1000 ≤ x ∧ x ≤ 1000) (hl1 : -1000 ≤ l) (hl2 : l ≤ 1000) (hj : j ≤ 1000) (hjl : ¬ j + 0 ≤ xs.length) :
    Calls Try.prog 149 #[.int .i64 n, v, .agg #[.int .i64 1, .int .i64 j, .int .i64 l]] w fun e w' => ∃ u, e = .returned (.tuple #[u, .int .i64 1]) ∧ OwnI w' w.heap.size u ([]) ∧ Below w.heap.size w w' := by
  have hmm := @run_makeMap Try.prog
  have hs1 : (w.alloc (.cells #[.int .i64 1, .int .i64 j, .int .i64 l] 57)).heap.size = w.heap.size + 1 := by simp
  obtain ⟨u1, u2, u3, u4, r1, r2, r3, r4, b4, hlook⟩ := mmap (w.alloc (.cells #[.int .i64 1, .int .i64 j, .int .i64 l] 57))
  have r5 : (Instr.lookup 181 (.map (some (w.heap.size + 1))) (.int .i64 1) false).run Try.prog u4 = .ok (.int .i64 0) u4 := by have := hlook 1 (by decide) (by decide); rw [hs1] at this; exact this
  rw [hs1] at r1 r2 r3 r4
  have hb1 : Below w.heap.size w (w.alloc (.cells #[.int .i64 1, .int .i64 j, .int .i64 l] 57)) := (Below.refl _ _).alloc (Nat.le_refl _) _
  have hb4 : Below w.heap.size w u4 := Below.chain hb1 b4
  have c0 : u4.cell? ⟨w.heap.size, 0, none⟩ = some (.int .i64 1) := by rw [b4.cell (by rw [hs1]; exact Nat.lt_succ_self _)]; simp [go_sem]
  have c1 : u4.cell? ⟨w.heap.size, 1, none⟩ = some (.int .i64 j) := by rw [b4.cell (by rw [hs1]; exact Nat.lt_succ_self _)]; simp [go_sem]
  have c2 : u4.cell? ⟨w.heap.size, 2, none⟩ = some (.int .i64 l) := by rw [b4.cell (by rw [hs1]; exact Nat.lt_succ_self _)]; simp [go_sem]
  have sv := hv.isSl
  have lv := hv.len
  have hcap := hv.cap
  have hv4 := hv.below hb4
  have HV := Lib.hid hv4
  have HX := Lib.hid hx
  have HB := Lib.hid hb4
  have hbs : w.heap.size + 1 ≤ u4.heap.size := by rw [← hs1]; exact b4.size
  have ne4 : w.heap.size < u4.heap.size := by omega
  clear hv hx hb1 hb4 b4 hlook hs1 hv4
  go_enter Try.func149, Try.ntmps149
  go_wp2_with fail
  refine (part_none v xs j 0 _ HV.out hl (by decide) hj hjl).mono ?_
  rintro e w' ⟨rfl, rfl⟩
  go_wp2_with fail
  go_ret2
  exact ⟨_, rfl, ownI_nil _ _, HB.out⟩

set_option maxHeartbeats 2000000 in
set_option maxRecDepth 100000 in
theorem local2_none (n : Int) (v : Value) (xs : List Int) (j : Nat) (l : Int) (w : World) (hv : Ints w v xs) (hn : 1 ≤ n) (hn6 : n ≤ 6) (hl : xs.length ≤ 1000) (hx : ∀ x ∈ xs, -1000 ≤ x ∧ x ≤ 1000) (hl1 : -1000 ≤ l) (hl2 : l ≤ 1000) (hj : j ≤ 1000) (hjl : ¬ j + 2 ≤ xs.length) :
    Calls Try.prog 149 #[.int .i64 n, v, .agg #[.int .i64 2, .int .i64 j, .int .i64 l]] w fun e w' => ∃ u, e = .returned (.tuple #[u, .int .i64 1]) ∧ OwnI w' w.heap.size u ([]) ∧ Below w.heap.size w w' := by
  have hmm := @run_makeMap Try.prog
  have hs1 : (w.alloc (.cells #[.int .i64 2, .int .i64 j, .int .i64 l] 57)).heap.size = w.heap.size + 1 := by simp
  obtain ⟨u1, u2, u3, u4, r1, r2, r3, r4, b4, hlook⟩ := mmap (w.alloc (.cells #[.int .i64 2, .int .i64 j, .int .i64 l] 57))
  have r5 : (Instr.lookup 181 (.map (some (w.heap.size + 1))) (.int .i64 2) false).run Try.prog u4 = .ok (.int .i64 2) u4 := by have := hlook 2 (by decide) (by decide); rw [hs1] at this; exact this
  rw [hs1] at r1 r2 r3 r4
  have hb1 : Below w.heap.size w (w.alloc (.cells #[.int .i64 2, .int .i64 j, .int .i64 l] 57)) := (Below.refl _ _).alloc (Nat.le_refl _) _
  have hb4 : Below w.heap.size w u4 := Below.chain hb1 b4
  have c0 : u4.cell? ⟨w.heap.size, 0, none⟩ = some (.int .i64 2) := by rw [b4.cell (by rw [hs1]; exact Nat.lt_succ_self _)]; simp [go_sem]
  have c1 : u4.cell? ⟨w.heap.size, 1, none⟩ = some (.int .i64 j) := by rw [b4.cell (by rw [hs1]; exact Nat.lt_succ_self _)]; simp [go_sem]
  have c2 : u4.cell? ⟨w.heap.size, 2, none⟩ = some (.int .i64 l) := by rw [b4.cell (by rw [hs1]; exact Nat.lt_succ_self _)]; simp [go_sem]
  have sv := hv.isSl
  have lv := hv.len
  have hcap := hv.cap
  have hv4 := hv.below hb4
  have HV := Lib.hid hv4
  have HX := Lib.hid hx
  have HB := Lib.hid hb4
  have hbs : w.heap.size + 1 ≤ u4.heap.size := by rw [← hs1]; exact b4.size
  have ne4 : w.heap.size < u4.heap.size := by omega
  clear hv hx hb1 hb4 b4 hlook hs1 hv4
  go_enter Try.func149, Try.ntmps149
  go_wp2_with fail
  refine (part_none v xs j 2 _ HV.out hl (by decide) hj hjl).mono ?_
  rintro e w' ⟨rfl, rfl⟩
  go_wp2_with fail
  go_ret2
  exact ⟨_, rfl, ownI_nil _ _, HB.out⟩

set_option maxHeartbeats 2000000 in
set_option maxRecDepth 100000 in
theorem local2_some (n : Int) (v : Value) (xs : List Int) (j : Nat) (l : Int) (w : World) (hv : Ints w v xs) (hn : 1 ≤ n) (hn6 : n ≤ 6) (hl : xs.length ≤ 1000) (hx : ∀ x ∈ xs, -1000 ≤ x ∧ x ≤ 1000) (hl1 : -1000 ≤ l) (hl2 : l ≤ 1000) (hj : j ≤ 1000) (hjl : j + 2 ≤ xs.length) (p0 : Int) (hp0 : nth xs (j + 0) = p0) (hp01 : -1000 ≤ p0) (hp02 : p0 ≤ 1000) (p1 : Int) (hp1 : nth xs (j + 1) = p1) (hp11 : -1000 ≤ p1) (hp12 : p1 ≤ 1000) (h : p0 = -p1) :
    Calls Try.prog 149 #[.int .i64 n, v, .agg #[.int .i64 2, .int .i64 j, .int .i64 l]] w fun e w' => ∃ u, e = .returned (.tuple #[u, .int .i64 0]) ∧ OwnI w' w.heap.size u (xs.take j ++ [] ++ xs.drop (j + 2)) ∧ Below w.heap.size w w' := by
  have hmm := @run_makeMap Try.prog
  have hs1 : (w.alloc (.cells #[.int .i64 2, .int .i64 j, .int .i64 l] 57)).heap.size = w.heap.size + 1 := by simp
  obtain ⟨u1, u2, u3, u4, r1, r2, r3, r4, b4, hlook⟩ := mmap (w.alloc (.cells #[.int .i64 2, .int .i64 j, .int .i64 l] 57))
  have r5 : (Instr.lookup 181 (.map (some (w.heap.size + 1))) (.int .i64 2) false).run Try.prog u4 = .ok (.int .i64 2) u4 := by have := hlook 2 (by decide) (by decide); rw [hs1] at this; exact this
  rw [hs1] at r1 r2 r3 r4
  have hb1 : Below w.heap.size w (w.alloc (.cells #[.int .i64 2, .int .i64 j, .int .i64 l] 57)) := (Below.refl _ _).alloc (Nat.le_refl _) _
  have hb4 : Below w.heap.size w u4 := Below.chain hb1 b4
  have c0 : u4.cell? ⟨w.heap.size, 0, none⟩ = some (.int .i64 2) := by rw [b4.cell (by rw [hs1]; exact Nat.lt_succ_self _)]; simp [go_sem]
  have c1 : u4.cell? ⟨w.heap.size, 1, none⟩ = some (.int .i64 j) := by rw [b4.cell (by rw [hs1]; exact Nat.lt_succ_self _)]; simp [go_sem]
  have c2 : u4.cell? ⟨w.heap.size, 2, none⟩ = some (.int .i64 l) := by rw [b4.cell (by rw [hs1]; exact Nat.lt_succ_self _)]; simp [go_sem]
  have sv := hv.isSl
  have lv := hv.len
  have hcap := hv.cap
  have hv4 := hv.below hb4
  have HV := Lib.hid hv4
  have HX := Lib.hid hx
  have HB := Lib.hid hb4
  have hbs : w.heap.size + 1 ≤ u4.heap.size := by rw [← hs1]; exact b4.size
  have ne4 : w.heap.size < u4.heap.size := by omega
  have hlc : Below u4.heap.size u4 (u4.alloc (.cells #[.int .i64 l, .int .i64 (-l)] 3)) := (Below.refl _ _).alloc (Nat.le_refl _) _
  have d0 : (u4.alloc (.cells #[.int .i64 l, .int .i64 (-l)] 3)).cell? ⟨w.heap.size, 0, none⟩ = some (.int .i64 2) := (hlc.cell ne4).trans c0
  have d1 : (u4.alloc (.cells #[.int .i64 l, .int .i64 (-l)] 3)).cell? ⟨w.heap.size, 1, none⟩ = some (.int .i64 j) := (hlc.cell ne4).trans c1
  have hc1 := hv4.cut (l := 0) (r := j) (m := vcap v) (Nat.zero_le _) (by omega) (by omega) (by omega)
  have hc2 := hv4.cut (l := j + 2) (r := xs.length) (m := vcap v) (by omega) (Nat.le_refl _) (by omega) (by omega)
  have sc1 := hc1.isSl
  have sc2 := hc2.isSl
  have HC1 := Lib.hid (hc1.below hlc)
  have HC2 := Lib.hid (hc2.below hlc)
  have HLC := Lib.hid (Below.chain hb4 hlc)
  have e0 : (u4.alloc (.cells #[.int .i64 l, .int .i64 (-l)] 3)).drew.cell? ⟨w.heap.size, 0, none⟩ = some (.int .i64 2) := d0
  have e1 : (u4.alloc (.cells #[.int .i64 l, .int .i64 (-l)] 3)).drew.cell? ⟨w.heap.size, 1, none⟩ = some (.int .i64 j) := d1
  have hlit : Ints (u4.alloc (.cells #[.int .i64 l, .int .i64 (-l)] 3)) (.slice (some ⟨u4.heap.size, 0, none⟩) 2 2) [l, -l] := ints_lit [l, -l] rfl rfl rfl (by simp)
  have HL := Lib.hid hlit
  clear hv hx hb1 hb4 b4 hlook hs1 hv4 hc1 hc2 hlc hlit
  have hcut := HV.out.cut (l := j) (r := j + 2) (m := vcap v) (by omega) hjl (by omega) (by omega)
  have hcl : ((xs.drop j).take (j + 2 - j)).length = 2 := by simp; omega
  have hnt : ∀ i, i < 2 → nth ((xs.drop j).take (j + 2 - j)) i = nth xs (j + i) := by
    intro i hi
    rw [nth_lt (by rw [hcl]; exact hi), nth_lt (show j + i < xs.length by omega)]
    simp
  have scut := hcut.isSl
  have lcut := hcut.len
  rw [hcl] at lcut
  obtain ⟨L, hL⟩ : ∃ L, vcut v j (j + 2) (vcap v) 1 = L := ⟨_, rfl⟩
  rw [hL] at hcut scut lcut
  have g0 : u4.cell? (vat L 0) = some (.int .i64 p0) := by rw [hcut.cell (by rw [hcl]; decide), hnt 0 (by decide), hp0]
  have k0 := (hcut.below (Below.refl _ _ |>.alloc (Nat.le_refl _) (.cells #[.int .i64 l, .int .i64 (-l)] 3))).cell (k := 0) (by rw [hcl]; decide)
  rw [hnt 0 (by decide), hp0] at k0
  have g1 : u4.cell? (vat L 1) = some (.int .i64 p1) := by rw [hcut.cell (by rw [hcl]; decide), hnt 1 (by decide), hp1]
  have k1 := (hcut.below (Below.refl _ _ |>.alloc (Nat.le_refl _) (.cells #[.int .i64 l, .int .i64 (-l)] 3))).cell (k := 1) (by rw [hcl]; decide)
  rw [hnt 1 (by decide), hp1] at k1
  clear hcut hcl hnt
  have t1 : (p0 == -p1) = true := by simp [h]
  go_enter Try.func149, Try.ntmps149
  go_wp2_with fail
  refine (part_some v xs j 2 _ HV.out hl (by decide) hj hjl).mono ?_
  rintro e w' ⟨rfl, rfl⟩
  rw [hL]
  go_wp2_with fail
  go_quiet (fail)
  go_wp2_with fail
  have q1 : j ≤ vcap v := by omega
  have q2 : IntKind.i64.wrap ((j : Int) + 2) = (j : Int) + 2 := IntWalk.i64_in _ ⟨by omega, by omega⟩
  have q3 : (j : Int) + 2 ≤ (xs.length : Int) := by omega
  have q4 : 0 ≤ (j : Int) + 2 := by omega
  have q5 : ((j : Int) + 2).toNat = j + 2 := by omega
  have q6 : xs.length ≤ vcap v := hcap
  have q8 : IntKind.i64.wrap (j : Int) = (j : Int) := IntWalk.i64_in _ ⟨by omega, by omega⟩
  have q9 : (j : Int) ≤ (xs.length : Int) := by omega
  have q10 : (0 : Int) ≤ (j : Int) := by omega
  have q11 : j ≤ xs.length := by omega
  have q12 : (xs.length : Int) ≤ ((vcap v : Nat) : Int) := by omega
  have q7 : j + 2 ≤ vcap v := by omega
  obtain ⟨x1, x2, x3, hx1, -⟩ := sc1.cases
  obtain ⟨y1, y2, y3, hy1, -⟩ := sc2.cases
  have HC1' := Lib.hid HC1.out
  have HC2' := Lib.hid HC2.out
  rw [hx1] at HC1'
  rw [hy1] at HC2'
  obtain ⟨V, hV⟩ : ∃ V, V = (u4.alloc (.cells #[.int .i64 l, .int .i64 (-l)] 3)).drewN nq := ⟨_, rfl⟩
  rw [← hV]
  have v0 : V.cell? ⟨w.heap.size, 0, none⟩ = some (.int .i64 2) := by rw [hV]; exact e0
  have v1 : V.cell? ⟨w.heap.size, 1, none⟩ = some (.int .i64 j) := by rw [hV]; exact e1
  have z1 : Ints V.drew (.slice x1 x2 x3) ((xs.drop 0).take (j - 0)) := by rw [hV]; (first | exact HC1'.out | exact HC1'.out.below (Below.refl _ _).drew | exact HC1'.out.below ((Below.drawn _).drew))
  have z2 : Ints V.drew (.slice none 0 0) [] := by rw [hV]; (first | exact ints_nil _ | exact ints_nil _.below (Below.refl _ _).drew | exact ints_nil _.below ((Below.drawn _).drew))
  have z3 : Ints V.drew (.slice y1 y2 y3) ((xs.drop (j + 2)).take (xs.length - (j + 2))) := by rw [hV]; (first | exact HC2'.out | exact HC2'.out.below (Below.refl _ _).drew | exact HC2'.out.below ((Below.drawn _).drew))
  have zb : Below w.heap.size w V.drew := by rw [hV]; (first | exact HLC.out | exact HLC.out.drew | exact Below.chain HLC.out ((Below.drawn _).drew))
  have ZC := Lib.hid (concat_calls _ [.slice x1 x2 x3, .slice none 0 0, .slice y1 y2 y3] [(xs.drop 0).take (j - 0), [], (xs.drop (j + 2)).take (xs.length - (j + 2))] _ (m_rowsV3 z1 z2 z3) (by simp; omega))
  have ZB := Lib.hid (Below.chain zb ((Below.refl _ _).alloc (Nat.le_refl _) (.cells #[.slice x1 x2 x3, .slice none 0 0, .slice y1 y2 y3] 25)))
  clear hV z1 z2 z3 zb
  go_still_tail 11, (by kernel_rfl)
  go_wp2_with fail
  refine ZC.out.mono ?_
  rintro e w' ⟨o, rfl, ho, hbo⟩
  have so := ho.isSl
  have he : [(xs.drop 0).take (j - 0), [], (xs.drop (j + 2)).take (xs.length - (j + 2))].flatten = xs.take j ++ [] ++ xs.drop (j + 2) := by
    rw [List.take_of_length_le (l := xs.drop (j + 2)) (by simp)]; simp
  rw [he] at ho
  have HO := Lib.hid (ho.low (by have := ZB.out.size; exact this))
  have HBO := Lib.hid (Below.chain ZB.out hbo)
  clear ho hbo
  go_wp2_with fail
  go_ret2
  exact ⟨_, rfl, HO.out, HBO.out⟩

set_option maxHeartbeats 2000000 in
set_option maxRecDepth 100000 in
theorem local2_not (n : Int) (v : Value) (xs : List Int) (j : Nat) (l : Int) (w : World) (hv : Ints w v xs) (hn : 1 ≤ n) (hn6 : n ≤ 6) (hl : xs.length ≤ 1000) (hx : ∀ x ∈ xs, -1000 ≤ x ∧ x ≤ 1000) (hl1 : -1000 ≤ l) (hl2 : l ≤ 1000) (hj : j ≤ 1000) (hjl : j + 2 ≤ xs.length) (p0 : Int) (hp0 : nth xs (j + 0) = p0) (hp01 : -1000 ≤ p0) (hp02 : p0 ≤ 1000) (p1 : Int) (hp1 : nth xs (j + 1) = p1) (hp11 : -1000 ≤ p1) (hp12 : p1 ≤ 1000) (h : ¬ p0 = -p1) :
    Calls Try.prog 149 #[.int .i64 n, v, .agg #[.int .i64 2, .int .i64 j, .int .i64 l]] w fun e w' => ∃ u, e = .returned (.tuple #[u, .int .i64 4]) ∧ OwnI w' w.heap.size u ([]) ∧ Below w.heap.size w w' := by
  have hmm := @run_makeMap Try.prog
  have hs1 : (w.alloc (.cells #[.int .i64 2, .int .i64 j, .int .i64 l] 57)).heap.size = w.heap.size + 1 := by simp
  obtain ⟨u1, u2, u3, u4, r1, r2, r3, r4, b4, hlook⟩ := mmap (w.alloc (.cells #[.int .i64 2, .int .i64 j, .int .i64 l] 57))
  have r5 : (Instr.lookup 181 (.map (some (w.heap.size + 1))) (.int .i64 2) false).run Try.prog u4 = .ok (.int .i64 2) u4 := by have := hlook 2 (by decide) (by decide); rw [hs1] at this; exact this
  rw [hs1] at r1 r2 r3 r4
  have hb1 : Below w.heap.size w (w.alloc (.cells #[.int .i64 2, .int .i64 j, .int .i64 l] 57)) := (Below.refl _ _).alloc (Nat.le_refl _) _
  have hb4 : Below w.heap.size w u4 := Below.chain hb1 b4
  have c0 : u4.cell? ⟨w.heap.size, 0, none⟩ = some (.int .i64 2) := by rw [b4.cell (by rw [hs1]; exact Nat.lt_succ_self _)]; simp [go_sem]
  have c1 : u4.cell? ⟨w.heap.size, 1, none⟩ = some (.int .i64 j) := by rw [b4.cell (by rw [hs1]; exact Nat.lt_succ_self _)]; simp [go_sem]
  have c2 : u4.cell? ⟨w.heap.size, 2, none⟩ = some (.int .i64 l) := by rw [b4.cell (by rw [hs1]; exact Nat.lt_succ_self _)]; simp [go_sem]
  have sv := hv.isSl
  have lv := hv.len
  have hcap := hv.cap
  have hv4 := hv.below hb4
  have HV := Lib.hid hv4
  have HX := Lib.hid hx
  have HB := Lib.hid hb4
  have hbs : w.heap.size + 1 ≤ u4.heap.size := by rw [← hs1]; exact b4.size
  have ne4 : w.heap.size < u4.heap.size := by omega
  have hlc : Below u4.heap.size u4 (u4.alloc (.cells #[.int .i64 l, .int .i64 (-l)] 3)) := (Below.refl _ _).alloc (Nat.le_refl _) _
  have d0 : (u4.alloc (.cells #[.int .i64 l, .int .i64 (-l)] 3)).cell? ⟨w.heap.size, 0, none⟩ = some (.int .i64 2) := (hlc.cell ne4).trans c0
  have d1 : (u4.alloc (.cells #[.int .i64 l, .int .i64 (-l)] 3)).cell? ⟨w.heap.size, 1, none⟩ = some (.int .i64 j) := (hlc.cell ne4).trans c1
  have hc1 := hv4.cut (l := 0) (r := j) (m := vcap v) (Nat.zero_le _) (by omega) (by omega) (by omega)
  have hc2 := hv4.cut (l := j + 2) (r := xs.length) (m := vcap v) (by omega) (Nat.le_refl _) (by omega) (by omega)
  have sc1 := hc1.isSl
  have sc2 := hc2.isSl
  have HC1 := Lib.hid (hc1.below hlc)
  have HC2 := Lib.hid (hc2.below hlc)
  have HLC := Lib.hid (Below.chain hb4 hlc)
  have e0 : (u4.alloc (.cells #[.int .i64 l, .int .i64 (-l)] 3)).drew.cell? ⟨w.heap.size, 0, none⟩ = some (.int .i64 2) := d0
  have e1 : (u4.alloc (.cells #[.int .i64 l, .int .i64 (-l)] 3)).drew.cell? ⟨w.heap.size, 1, none⟩ = some (.int .i64 j) := d1
  have hlit : Ints (u4.alloc (.cells #[.int .i64 l, .int .i64 (-l)] 3)) (.slice (some ⟨u4.heap.size, 0, none⟩) 2 2) [l, -l] := ints_lit [l, -l] rfl rfl rfl (by simp)
  have HL := Lib.hid hlit
  clear hv hx hb1 hb4 b4 hlook hs1 hv4 hc1 hc2 hlc hlit
  have hcut := HV.out.cut (l := j) (r := j + 2) (m := vcap v) (by omega) hjl (by omega) (by omega)
  have hcl : ((xs.drop j).take (j + 2 - j)).length = 2 := by simp; omega
  have hnt : ∀ i, i < 2 → nth ((xs.drop j).take (j + 2 - j)) i = nth xs (j + i) := by
    intro i hi
    rw [nth_lt (by rw [hcl]; exact hi), nth_lt (show j + i < xs.length by omega)]
    simp
  have scut := hcut.isSl
  have lcut := hcut.len
  rw [hcl] at lcut
  obtain ⟨L, hL⟩ : ∃ L, vcut v j (j + 2) (vcap v) 1 = L := ⟨_, rfl⟩
  rw [hL] at hcut scut lcut
  have g0 : u4.cell? (vat L 0) = some (.int .i64 p0) := by rw [hcut.cell (by rw [hcl]; decide), hnt 0 (by decide), hp0]
  have k0 := (hcut.below (Below.refl _ _ |>.alloc (Nat.le_refl _) (.cells #[.int .i64 l, .int .i64 (-l)] 3))).cell (k := 0) (by rw [hcl]; decide)
  rw [hnt 0 (by decide), hp0] at k0
  have g1 : u4.cell? (vat L 1) = some (.int .i64 p1) := by rw [hcut.cell (by rw [hcl]; decide), hnt 1 (by decide), hp1]
  have k1 := (hcut.below (Below.refl _ _ |>.alloc (Nat.le_refl _) (.cells #[.int .i64 l, .int .i64 (-l)] 3))).cell (k := 1) (by rw [hcl]; decide)
  rw [hnt 1 (by decide), hp1] at k1
  clear hcut hcl hnt
  have t1 : (p0 == -p1) = false := by simp [h]
  go_enter Try.func149, Try.ntmps149
  go_wp2_with fail
  refine (part_some v xs j 2 _ HV.out hl (by decide) hj hjl).mono ?_
  rintro e w' ⟨rfl, rfl⟩
  rw [hL]
  go_wp2_with fail
  go_quiet (fail)
  go_wp2_with fail
  go_ret2
  exact ⟨_, rfl, ownI_nil _ _, Below.chain HB.out (Below.chain ((Below.refl _ _).alloc (Nat.le_refl _) _) (Below.drawn _))⟩

end Go.Proofs.Ytmcecmnbdcbehaa


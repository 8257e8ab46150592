/- timbkeep1.forms, formed walked. -/
import Derived.Test.YtnkahkahcajahaaGarEq
namespace Go.Proofs.Ytnkahkahcajahaa
open Go.RowKit Go.Sl

theorem forms1_calls (a b : Value) (xs ys : List Int) (w : World) (ha : Ints w a xs) (hb : Ints w b ys) :
    Calls Try.prog 110 #[a, b] w fun e w' => e = .returned (.bool (decide (xs = ys))) ∧ Below w.heap.size w w' := by
  have HE := Lib.hid (equal_calls a b xs ys w ha hb)
  have sa := ha.isSl; have sb := hb.isSl
  clear ha hb
  go_enter Try.func110, Try.ntmps110
  go_wp2_with fail
  refine HE.out.mono ?_
  rintro e w1 ⟨rfl, hb⟩
  go_wp2_with fail
  go_ret
  exact ⟨rfl, hb⟩

set_option maxRecDepth 100000 in
set_option maxHeartbeats 4000000 in
theorem forms_calls (n : Nat) (a b : Value) (xs ys : List Int) (w : World) (ha : Ints w a xs) (hb : Ints w b ys) (h2 : 2 ≤ n) (h6 : n ≤ 6) (hx : BWord n xs) (hy : BWord n ys) (hl : xs.length ≤ 30) (hm : ys.length ≤ 30) :
    Calls Try.prog 53 #[.int .i64 n, a, b] w fun e w' => ∃ c d : St, e = .returned (.bool (decide (c = d))) ∧ Cn n (mulW n (0, []) xs) c ∧ Cn n (mulW n (0, []) ys) d ∧ Below w.heap.size w w' := by
  have sa := ha.isSl; have sb := hb.isSl
  have HA := Lib.hid (normalForm_calls n a xs w ha h2 h6 hx hl)
  have HY := Lib.hid (fun W (hW : Below w.heap.size w W) => normalForm_calls n b ys W (hb.below hW) h2 h6 hy hm)
  clear ha hb hx hy
  go_enter Try.func53, Try.ntmps53
  go_wp2_with fail
  refine HA.out.mono ?_
  rintro e w1 ⟨⟨p, F⟩, l, ls, rfl, hc, hl1, hb1⟩
  have HC := Lib.hid hc; have HL := Lib.hid hl1; have HB1 := Lib.hid hb1
  have s1 := hl1.rows.isSl
  clear hc hl1 hb1
  go_wp2_with fail
  refine (HY.out _ HB1.out).mono ?_
  rintro e w2 ⟨⟨q, G⟩, m, ms, rfl, hd, hl2, hb2⟩
  have s2 := hl2.rows.isSl
  have HEF := Lib.hid (equalFunc_calls l m ls ms F G _ (enters_some (Go.Proofs.enters_of Try.func110 (by kernel_rfl) rfl)) w2 (HL.out.below hb2).rows hl2.rows (fun W c d xs ys h k => forms1_calls c d xs ys W h k))
  have HD := Lib.hid hd; have HB2 := Lib.hid (Below.chain HB1.out hb2)
  clear hd hl2 hb2
  by_cases hpq : p = q
  · have hd : (p == q) = true := by simpa using hpq
    have hd' : decide (p = q) = true := by simpa using hpq
    go_wp2_with fail
    refine HEF.out.mono ?_
    rintro e w3 ⟨rfl, hb3⟩
    have HB3 := Lib.hid hb3; clear hb3
    go_wp2_with fail
    go_ret
    refine ⟨(p, F), (q, G), ?_, HC.out, HD.out, Below.chain HB2.out HB3.out⟩
    simp [hpq]
  · have hd : (p == q) = false := by simpa using hpq
    have hd' : decide (p = q) = false := by simpa using hpq
    go_wp2_with fail
    go_ret
    refine ⟨(p, F), (q, G), ?_, HC.out, HD.out, HB2.out⟩
    simp [hpq]

theorem braided_nf : Cn 3 (mulW 3 (0, []) [-1]) (-1, [[2, 0, 1]]) := by
  refine ⟨mulW_good (by decide) _ _ (fun x hx => by simp at hx; subst hx; exact ⟨by decide, by decide⟩) (good_nil 3), [[2, 0, 1]], ?_, ?_, ?_⟩
  · have : mulW 3 (0, []) [-1] = (-1, [[2, 0, 1]]) := by decide +kernel
    rw [this]; exact .refl _
  · intro G s; cases s with | next x h => cases h
  · decide +kernel

set_option maxRecDepth 100000 in
set_option maxHeartbeats 4000000 in
theorem formed_calls (w : World) : Calls Try.prog 52 #[] w fun e w' => e = .returned (.bool true) ∧ Below w.heap.size w w' := by
  have hb1 : Below w.heap.size w (w.alloc (.cells #[.int .i64 (-1)] 3)) := (Below.refl _ _).alloc (Nat.le_refl _) _
  have HN := Lib.hid (normalForm_calls 3 _ [-1] (w.alloc (.cells #[.int .i64 (-1)] 3)) (ints_lit [-1] (b := w.heap.size) rfl rfl rfl (by simp)) (by omega) (by omega) (fun x hx => by simp at hx; omega) (by simp))
  have HB1 := Lib.hid hb1
  clear hb1
  go_enter Try.func52, Try.ntmps52
  go_wp2_with fail
  refine HN.out.mono ?_
  rintro e w1 ⟨c, l, ls, rfl, hc, hl, hb2⟩
  obtain rfl := cn_unique hc braided_nf
  have k0 := hl.rows.cell (i := 0) (by simp)
  have r0 := hl.row 0 (by simp)
  have sl := hl.rows.isSl
  have ll := hl.rows.len
  have s0 := r0.isSl
  have HR0 := Lib.hid r0.ints
  have HB2 := Lib.hid (Below.chain HB1.out hb2)
  obtain ⟨q, hq⟩ : ∃ q, nthv ls 0 = q := ⟨_, rfl⟩
  rw [hq] at k0 s0 HR0
  simp only [nthr, List.getD_cons_zero] at HR0
  simp only [List.length_cons, List.length_nil] at ll
  clear hc hl r0 hb2 hq
  go_wp2_with fail
  have hb3 : Below w1.heap.size w1 (w1.alloc (.cells #[.int .i64 2, .int .i64 0, .int .i64 1] 3)) := (Below.refl _ _).alloc (Nat.le_refl _) _
  refine (equal_yes _ _ [2, 0, 1] [2, 0, 1] _ (HR0.out.below hb3) (ints_lit [2, 0, 1] rfl rfl rfl (by simp)) rfl).mono ?_
  rintro e w2 ⟨rfl, hb4⟩
  have HB3 := Lib.hid (Below.chain HB2.out (Below.chain hb3 hb4))
  clear hb3 hb4
  go_wp2_with fail
  go_ret
  exact ⟨rfl, HB3.out⟩

end Go.Proofs.Ytnkahkahcajahaa

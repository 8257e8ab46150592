/- garside.tighten walked: crossings moved from the second factor to the first, until none is left. -/
import Derived.Test.YtnmklkjlcpgjmaaQTopWordProblem0
import Derived.Test.YtnmklkjlcpgjmaaQTopWordProblem1
import Derived.Test.YtnmklkjlcpgjmaaQTopWordProblem3
import Derived.Test.YtnmklkjlcpgjmaaQTopWordProblem5
import Derived.Test.YtnmklkjlcpgjmaaQTopWordProblem6
import Derived.Test.YtnmklkjlcpgjmaaQTopWordProblem7
import Derived.Test.YtnmklkjlcpgjmaaQTopWordProblem8
import Derived.Test.YtnmklkjlcpgjmaaQTopWordProblem9
import Derived.Test.YtnmklkjlcpgjmaaQTopWordProblem10
import Derived.Test.YtnmklkjlcpgjmaaQTopWordProblem11
import Derived.Test.YtnmklkjlcpgjmaaQTopWordProblem12
import Derived.Test.YtnmklkjlcpgjmaaQTopWordProblem15
import Derived.Test.YtnmklkjlcpgjmaaQTopWordProblem16
import Derived.Test.YtnmklkjlcpgjmaaQTopWordProblem17
import Derived.Test.YtnmklkjlcpgjmaaQTopWordProblem18
import Derived.Test.YtnmklkjlcpgjmaaQTopWordProblem19
import Derived.Test.YtnmklkjlcpgjmaaQTopWordProblem20
import Derived.Test.YtnmklkjlcpgjmaaQTopWordProblem31
import Derived.Test.YtnmklkjlcpgjmaaQTopWordProblem32
import Derived.Test.YtnmklkjlcpgjmaaQTopWordProblem34
import Derived.Test.YtnmklkjlcpgjmaaQTopWordProblem35

namespace Go.Proofs.Ytnmklkjlcpgjmaa
open Go.RowKit Go.Sl

/-- Nothing but the blocks of S has turned; there may be new blocks. -/
structure Chd (w w' : World) (S : Nat → Prop) : Prop where
  os : w'.os = w.os
  tape : w'.tape = w.tape
  output : w'.output = w.output
  size : w.heap.size ≤ w'.heap.size
  block : ∀ k, k < w.heap.size → ¬ S k → w'.heap[k]? = w.heap[k]?
section
variable {w w' w2 : World} {S : Nat → Prop}
theorem Chd.refl (w : World) (S : Nat → Prop) : Chd w w S := ⟨rfl, rfl, rfl, Nat.le_refl _, fun _ _ _ => rfl⟩
theorem Chd.trans (h : Chd w w' S) (k : Chd w' w2 S) : Chd w w2 S :=
  ⟨k.os.trans h.os, k.tape.trans h.tape, k.output.trans h.output, Nat.le_trans h.size k.size, fun b hb hs => (k.block b (Nat.lt_of_lt_of_le hb h.size) hs).trans (h.block b hb hs)⟩
theorem Chd.of_below (h : Below w.heap.size w w') : Chd w w' S := ⟨h.os, h.tape, h.output, h.size, fun k hk _ => h.block k hk⟩
theorem Chd.set {p : Addr} (hp : S p.block) (u : Value) : Chd w (w.setCell p u) S := ⟨rfl, rfl, rfl, by simp, fun k _ hk => Below.heap_setCell w p u k (fun e => hk (e ▸ hp))⟩
theorem Chd.mono {T : Nat → Prop} (h : Chd w w' S) (k : ∀ b, b < w.heap.size → S b → T b) : Chd w w' T := ⟨h.os, h.tape, h.output, h.size, fun b hb ht => h.block b hb (fun hs => ht (k b hb hs))⟩
theorem Chd.below {B : Nat} (h : Chd w w' S) (hB : B ≤ w.heap.size) (k : ∀ b, S b → B ≤ b) : Below B w w' := ⟨h.os, h.tape, h.output, h.size, fun b hb => h.block b (Nat.lt_of_lt_of_le hb hB) (fun hs => by have := k b hs; omega)⟩
theorem Chd.grown {r : Option Nat} (h : w.grownBy w' r) (k : ∀ b, r = some b → S b) : Chd w w' S := ⟨h.os, h.tape, h.output, h.size, fun b hb hs => h.block b hb (fun e => hs (k b e.symm))⟩
theorem Chd.own {B : Nat} {v : Value} {xs : List Int} (h : Chd w w' S) (k : OwnI w B v xs) (hv : ∀ b, row v = some b → ¬ S b) : OwnI w' B v xs := Own.of_block k fun b hb => h.block b (k.lt b hb).2 (hv b hb)
end

/-- What a slice of ints reads as. -/
noncomputable def readI (w : World) (v : Value) (n : Nat) : List Int := (List.range n).map fun j => match w.cell? (vat v j) with | some (.int _ x) => x | _ => 0
theorem readI_of {w : World} {v : Value} {xs : List Int} (h : Ints w v xs) : readI w v xs.length = xs := by
  refine ext_nth (by simp [readI]) fun j hj => ?_
  have hj' : j < xs.length := by simpa [readI] using hj
  rw [nth_lt hj]
  simp [readI, h.cell hj']
theorem swapV_set {n : Nat} {a : List Int} (h : Pn n a) {i p q : Nat} (_hi : i + 1 < n) (hp : p < n) (hq : q < n) (e1 : nth a p = i) (e2 : nth a q = (i : Int) + 1) : (a.set p ((i : Int) + 1)).set q i = swapV a i := by
  have hpq : p ≠ q := fun e => by subst e; omega
  refine ext_nth (by simp [swapV_length]) fun k hk => ?_
  have hk' : k < n := by simp [h.len] at hk; exact hk
  rw [nth_swapV _ _ _ (by rw [h.len]; exact hk')]
  by_cases h1 : q = k
  · subst h1
    rw [nth_set_same _ (by simp [h.len]; exact hq), e2]
    unfold swV; grind
  · rw [nth_set_other _ h1]
    by_cases h2 : p = k
    · subst h2
      rw [nth_set_same _ (by rw [h.len]; exact hp), e1]
      unfold swV; grind
    · rw [nth_set_other _ h2]
      have n1 : nth a k ≠ i := fun e => h2 (h.perm.inj (by rw [h.len]; exact hp) (by rw [h.len]; exact hk') (by rw [e1, e]))
      have n2 : nth a k ≠ (i : Int) + 1 := fun e => h1 (h.perm.inj (by rw [h.len]; exact hq) (by rw [h.len]; exact hk') (by rw [e2, e]))
      unfold swV; rw [if_neg n1, if_neg n2]
theorem idxOf_at {n : Nat} {a : List Int} (h : Pn n a) {p x : Nat} (hp : p < n) (e : nth a p = x) : idxOf a x = p :=
  idxOf_hit a x p (by rw [h.len]; exact hp) e fun j hj e2 => by
    have := h.perm.inj (i := j) (j := p) (by rw [h.len]; omega) (by rw [h.len]; exact hp) (by rw [e2, e])
    omega

set_option maxRecDepth 100000 in
set_option maxHeartbeats 4000000 in
theorem tighten_calls (n : Nat) (a b : Value) (xs ys : List Int) (B : Nat) (w : World) (ha : OwnI w B a xs) (hb : OwnI w B b ys) (hx : Pn n xs) (hy : Pn n ys) (h2 : 2 ≤ n) (h6 : n ≤ 6) (hne : vblk a ≠ vblk b) :
    Calls Try.prog 49 #[a, b] w fun e w' => ∃ m xs' ys', e = .returned (.bool m) ∧ OwnI w' B a xs' ∧ OwnI w' B b ys' ∧ Reach n [xs, ys] [xs', ys'] ∧ (∀ i, i + 1 < n → dn ys' i → ¬ up xs' i) ∧
      (m = false → xs' = xs ∧ ys' = ys) ∧ (m = true → inv ys' < inv ys) ∧ Chd w w' (fun k => k = vblk a ∨ k = vblk b) := by
  have sa := ha.isSl
  have la := ha.len
  have sb := hb.isSl
  have lb := hb.len
  rw [hx.len] at la
  rw [hy.len] at lb
  have HA := Lib.hid ha; have HB := Lib.hid hb; have HX := Lib.hid hx; have HY := Lib.hid hy; have HNE := Lib.hid hne
  have HG := Lib.hid (Good.cons hx (Good.cons hy (good_nil n)))
  clear ha hb hx hy hne
  go_enter Try.func49, Try.ntmps49
  go_wp2_with fail
  refine (loose_calls n a b xs ys _ HA.out.ints HB.out.ints HX.out HY.out (by omega)).mono ?_
  rintro e w1 ⟨r, rfl, hr, hb1⟩
  have HR := Lib.hid hr; have HB1 := Lib.hid hb1
  clear hr hb1
  go_wp2_with fail
  go_loopw [5, 6] (fun mv i wr => ∃ (m : Bool) (r : Int) (xs' ys' : List Int), mv = .bool m ∧ i = .int .i64 r ∧ OwnI wr B a xs' ∧ OwnI wr B b ys' ∧ Reach n [xs, ys] [xs', ys'] ∧ LooseIs n xs' ys' r ∧ (m = false → xs' = xs ∧ ys' = ys) ∧ (m = true → inv ys' < inv ys) ∧ Chd w wr (fun k => k = vblk a ∨ k = vblk b)) (fun _ _ wr => inv (readI wr b n))
  case atStart => exact ⟨false, r, xs, ys, rfl, rfl, HA.out.below HB1.out, HB.out.below HB1.out, .refl _, HR.out, fun _ => ⟨rfl, rfl⟩, (fun h => by cases h), Chd.of_below HB1.out⟩
  case round =>
    obtain ⟨m, r, xs', ys', rfl, rfl, hoa, hob, hre, hlo, hm0, hm1, hch⟩ := hrel
    have hg := hre.good HG.out
    have px := hg.hd
    have py := hg.tl.hd
    have HM0 := Lib.hid hm0; have HM1 := Lib.hid hm1; have HRE := Lib.hid hre; have HCH := Lib.hid hch; have HPX := Lib.hid px; have HPY := Lib.hid py
    have hrd : readI wr b n = ys' := by have := readI_of hob.ints; rwa [py.len] at this
    have HRD := Lib.hid hrd
    clear hg hm0 hm1 hre hch hrd
    rcases hlo with ⟨rfl, hno⟩ | ⟨i, rfl, hi, hd, hu⟩
    · have HNO := Lib.hid hno; have HOA := Lib.hid hoa; have HOB := Lib.hid hob
      clear hno hoa hob px py
      go_wp2_with fail
      go_ret
      exact ⟨m, xs', ys', rfl, HOA.out, HOB.out, HRE.out, HNO.out, HM0.out, HM1.out, HCH.out⟩
    · obtain ⟨p, hp, ep, -⟩ := Go.Proofs.Ytnmklkjlcpgjmaa.hit px (x := i) (by omega)
      obtain ⟨q, hq, eq, -⟩ := Go.Proofs.Ytnmklkjlcpgjmaa.hit px (x := i + 1) hi
      have eq' : nth xs' q = (i : Int) + 1 := by rw [eq]; omega
      have ip := idxOf_at px hp ep
      have iq := idxOf_at px hq eq
      have hset := swapV_set px hi hp hq ep eq'
      have hiy : i < ys'.length := by rw [py.len]; omega
      have hjy : i + 1 < ys'.length := by rw [py.len]; omega
      have hpx' : p < xs'.length := by rw [px.len]; exact hp
      have hqx' : q < xs'.length := by rw [px.len]; exact hq
      -- the second factor's neighbours are exchanged
      have c1 := hob.cell hiy; have c2 := hob.cell hjy
      have f1 := hob.frozen hiy
      obtain ⟨x, hx⟩ : ∃ x, nth ys' i = x := ⟨_, rfl⟩
      obtain ⟨y, hy⟩ : ∃ y, nth ys' (i + 1) = y := ⟨_, rfl⟩
      rw [hx] at c1
      rw [hy] at c2
      have o2 := hob.set hiy y
      have f2 := o2.frozen (k := i + 1) (by rw [List.length_set]; exact hjy)
      have e2 := o2.cell (k := i + 1) (by rw [List.length_set]; exact hjy)
      have o3 := o2.set (k := i + 1) (by rw [List.length_set]; exact hjy) x
      have hsw : (ys'.set i y).set (i + 1) x = swapAt ys' i := by rw [← hx, ← hy]; rfl
      rw [hsw] at o3
      have hrow : ∀ k, row a = some k → vblk b ≠ k := fun k hk e => HNE.out (by rw [(row_eq hk).2, e])
      have hrow' : ∀ k, row b = some k → vblk a ≠ k := fun k hk e => HNE.out (by rw [e, (row_eq hk).2])
      have oa3 : OwnI ((wr.setCell (vat b i) (.int .i64 y)).setCell (vat b (i + 1)) (.int .i64 x)) B a xs' := (hoa.setOther (p := vat b i) hrow _).setOther (p := vat b (i + 1)) hrow _
      have ch3 : Chd wr ((wr.setCell (vat b i) (.int .i64 y)).setCell (vat b (i + 1)) (.int .i64 x)) (fun k => k = vblk a ∨ k = vblk b) := (Chd.set (p := vat b i) (.inr rfl) _).trans (Chd.set (p := vat b (i + 1)) (.inr rfl) _)
      have hin : (i : Int) + 1 < (n : Int) := by omega
      have hia : ((i : Int) + 1).toNat = i + 1 := by omega
      have HST := Lib.hid (Step.here (n := n) [] hi hu hd)
      have HINV := Lib.hid (inv_dn py hi hd)
      have HO3 := Lib.hid o3; have HOA3 := Lib.hid oa3; have HCH3 := Lib.hid ch3; have HIP := Lib.hid ip; have HIQ := Lib.hid iq; have HSET := Lib.hid hset; have HROW := Lib.hid hrow'
      have HPL := Lib.hid hpx'; have HQL := Lib.hid hqx'; have HPQ := Lib.hid (show p ≠ q from fun e => by subst e; omega)
      clear hx hy hsw o2 o3 oa3 ch3 hoa hob ip iq hset hrow hrow' hu hd ep eq eq' px py hpx' hqx'
      have w1i : IntKind.i64.wrap ((i : Int) + 1) = (i : Int) + 1 := IntWalk.i64_in _ ⟨by omega, by omega⟩
      go_wp2_with fail
      go_region
      go_wp2_with fail
      refine (index_calls a xs' i _ (HOA3.out.below (Below.refl _ _).drew).ints).mono ?_
      rintro e w1 ⟨rfl, rfl⟩
      rw [HIP.out]
      go_wp2_with fail
      refine (index_calls a xs' ((i : Int) + 1) _ (HOA3.out.below (Below.refl _ _).drew).ints).mono ?_
      rintro e w1 ⟨rfl, rfl⟩
      have iq := HIQ.out
      simp only [Int.natCast_add, Int.natCast_one] at iq
      rw [iq]
      clear iq
      have oa := HOA3.out
      have xp := HPX.out.len
      have pl : p < xs'.length := HPL.out
      have ql : q < xs'.length := HQL.out
      have hpn : (p : Int) < (n : Int) := by omega
      have hqn : (q : Int) < (n : Int) := by omega
      have od := oa.below (Below.refl _ _).drew
      have o4 := od.set pl ((i : Int) + 1)
      have p4 := oa.set pl ((i : Int) + 1)
      have p5 := p4.set (k := q) (by rw [List.length_set]; exact ql) i
      rw [HSET.out] at p5
      have f3 := od.frozen pl
      have f4 := o4.frozen (k := q) (by rw [List.length_set]; exact ql)
      have c3d := od.cell pl
      have c4d := o4.cell (k := q) (by rw [List.length_set]; exact ql)
      have c3 := oa.cell pl
      have g3 := oa.frozen pl
      have c4 := p4.cell (k := q) (by rw [List.length_set]; exact ql)
      have g4 := p4.frozen (k := q) (by rw [List.length_set]; exact ql)
      have ob5 := (HO3.out.setOther (p := vat a p) HROW.out (.int .i64 ((i : Int) + 1))).setOther (p := vat a q) HROW.out (.int .i64 i)
      have ch5 := (HCH3.out.trans (Chd.set (p := vat a p) (.inl rfl) (.int .i64 ((i : Int) + 1)))).trans (Chd.set (p := vat a q) (.inl rfl) (.int .i64 i))
      have HO5 := Lib.hid p5; have XP := Lib.hid xp; have HB5 := Lib.hid ob5; have HCH5 := Lib.hid ch5
      clear oa od o4 p4 p5 xp pl ql ob5 ch5
      go_wp2_with fail
      have hre2 := HRE.out.trans (.one HST.out)
      have hg2 := hre2.good HG.out
      refine (loose_calls n a b _ _ _ (HO5.out.below (Below.refl _ _).drew).ints (HB5.out.below (Below.refl _ _).drew).ints hg2.hd hg2.tl.hd (by omega)).mono ?_
      rintro e w2 ⟨r2, rfl, hr2, hb2⟩
      have HRE2 := Lib.hid hre2; have HG2 := Lib.hid hg2; have HR2 := Lib.hid hr2; have HB2 := Lib.hid hb2
      clear hre2 hg2 hr2 hb2
      go_wp2_with fail
      go_roundw
      case rel =>
        refine ⟨true, r2, _, _, rfl, rfl, (HO5.out.below (Below.refl _ _).drew).below HB2.out, (HB5.out.below (Below.refl _ _).drew).below HB2.out, HRE2.out, HR2.out, (fun h => by cases h), (fun _ => ?_), ?_⟩
        · have e1 := HINV.out
          cases m with
          | false => have e2 := (HM0.out rfl).2; rw [e2] at e1 ⊢; omega
          | true => have e2 := HM1.out rfl; omega
        · exact HCH.out.trans (HCH5.out.trans ((Chd.of_below (Below.refl _ _).drew).trans (Chd.of_below HB2.out)))
      case measure =>
        have e1 := readI_of ((HB5.out.below (Below.refl _ _).drew).below HB2.out).ints
        rw [HG2.out.tl.hd.len] at e1
        rw [e1, HRD.out]
        have := HINV.out
        omega

end Go.Proofs.Ytnmklkjlcpgjmaa


/- garside's turn walked: each factor turned about. -/
import Derived.Test.YtnmklkjlcpgjmaaQTopWordProblem0
import Derived.Test.YtnmklkjlcpgjmaaQTopWordProblem1
import Derived.Test.YtnmklkjlcpgjmaaQTopWordProblem3
import Derived.Test.YtnmklkjlcpgjmaaQTopWordProblem5
import Derived.Test.YtnmklkjlcpgjmaaQTopWordProblem6
import Derived.Test.YtnmklkjlcpgjmaaQTopWordProblem7
import Derived.Test.YtnmklkjlcpgjmaaQTopWordProblem8
import Derived.Test.YtnmklkjlcpgjmaaQTopWordProblem9
import Derived.Test.YtnmklkjlcpgjmaaQTopWordProblem10
import Derived.Test.YtnmklkjlcpgjmaaQTopWordProblem11
import Derived.Test.YtnmklkjlcpgjmaaQTopWordProblem12
import Derived.Test.YtnmklkjlcpgjmaaQTopWordProblem13
import Derived.Test.YtnmklkjlcpgjmaaQTopWordProblem15
import Derived.Test.YtnmklkjlcpgjmaaQTopWordProblem16
import Derived.Test.YtnmklkjlcpgjmaaQTopWordProblem17
import Derived.Test.YtnmklkjlcpgjmaaQTopWordProblem18
import Derived.Test.YtnmklkjlcpgjmaaQTopWordProblem19
import Derived.Test.YtnmklkjlcpgjmaaQTopWordProblem20
import Derived.Test.YtnmklkjlcpgjmaaQTopWordProblem29
import Derived.Test.YtnmklkjlcpgjmaaQTopWordProblem31
import Derived.Test.YtnmklkjlcpgjmaaQTopWordProblem32
import Derived.Test.YtnmklkjlcpgjmaaQTopWordProblem34
import Derived.Test.YtnmklkjlcpgjmaaQTopWordProblem35
import Derived.Test.YtnmklkjlcpgjmaaQTopWordProblem36
import Derived.Test.YtnmklkjlcpgjmaaQTopWordProblem37
import Derived.Test.YtnmklkjlcpgjmaaQTopWordProblem38
import Derived.Test.YtnmklkjlcpgjmaaQTopWordProblem39
import Derived.Test.YtnmklkjlcpgjmaaQTopWordProblem40

namespace Go.Proofs.Ytnmklkjlcpgjmaa
open Go.RowKit Go.Sl

/-- The first k elements carried over. -/
def mapTo {α : Type} (g : α → α) (ys : List α) (k : Nat) : List α := (ys.take k).map g ++ ys.drop k
section
variable {α : Type} (g : α → α) (ys : List α)
theorem mapTo_zero : mapTo g ys 0 = ys := by simp [mapTo]
theorem mapTo_all : mapTo g ys ys.length = ys.map g := by simp [mapTo]
theorem mapTo_length {k : Nat} (h : k ≤ ys.length) : (mapTo g ys k).length = ys.length := by simp [mapTo]; omega
theorem mapTo_get {k : Nat} (h : k < ys.length) : (mapTo g ys k)[k]? = some ys[k] := by
  simp [mapTo, List.getElem?_append, Nat.min_eq_left (Nat.le_of_lt h), h]
theorem mapTo_set {k : Nat} (h : k < ys.length) : (mapTo g ys k).set k (g ys[k]) = mapTo g ys (k + 1) := by
  unfold mapTo
  rw [List.take_succ_eq_append_getElem h, List.map_append, List.append_assoc, List.drop_eq_getElem_cons h, List.set_append]
  simp [Nat.min_eq_left (Nat.le_of_lt h)]
  rw [List.drop_eq_getElem_cons h, List.set_cons_zero]
end
theorem Frm.put {W : World} {B bx n : Nat} {p : Int} {v r : Value} {vs : List Value} {F : List (List Int)} {ys : List Int} (h : Frm W B bx n p v vs F) {i : Nat} (hi : i < F.length) (hy : OwnI W B r ys) (l0 : 0 < ys.length) (hap : Go.Sl.row v ≠ some (vblk r)) (hea : ∀ j, j < F.length → vblk (nthv vs j) ≠ vblk r) :
    Frm (W.setCell (vat v i) r) B bx n p v (vs.set i r) (F.set i ys) :=
  ⟨(Below.heap_setCell W (vat v i) r bx (fun e => h.slNe (by rw [row_some (h.rows.own.cap_of (j := i) (by rw [h.rows.len]; exact hi))]; rw [vat_block] at e; rw [e]))).trans h.box, h.rows.put hi hy l0 hap hea, h.ge⟩

set_option maxRecDepth 100000 in
set_option maxHeartbeats 4000000 in
theorem turn_calls (n : Nat) (p : Int) (v : Value) (vs : List Value) (F : List (List Int)) (B bx : Nat) (w : World) (h : Frm w B bx n p v vs F) (g : Good n F) (h2 : 2 ≤ n) (h6 : n ≤ 6) (hl : F.length ≤ 500) (_hB : B ≤ w.heap.size) :
    Calls Try.prog 43 #[.pointer (some ⟨bx, 0, none⟩)] w fun e w' => ∃ vs', (∃ u, e = .returned u) ∧ Frm w' B bx n p v vs' (F.map (turnP n)) ∧ Below B w w' := by
  have sv := h.rows.own.isSl
  have lv := h.rows.own.len
  rw [h.rows.len] at lv
  have c2 := h.c2
  obtain ⟨L, hL⟩ : ∃ L, F.length = L := ⟨_, rfl⟩
  rw [hL] at lv hl
  have H := Lib.hid h; have HG := Lib.hid g; have HL := Lib.hid hL
  clear h g hL
  go_enter Try.func43, Try.ntmps43
  go_wp2_with fail
  clear c2
  go_loopw [12] (fun s wr => ∃ (k : Nat) (vk : List Value), s = .int .i64 k ∧ k ≤ L ∧ Frm wr B bx n p v vk (mapTo (turnP n) F k) ∧ Below B w wr) (fun s _ => L - (intOf s).toNat)
  case atStart => exact ⟨0, vs, rfl, Nat.zero_le _, by rw [mapTo_zero]; exact H.out, Below.refl _ _⟩
  case round =>
    obtain ⟨k, vk, rfl, hk, hf, hb⟩ := hrel
    by_cases hlt : k < L
    · have hFk : k < F.length := by rw [HL.out]; exact hlt
      have hml := mapTo_length (turnP n) F (Nat.le_of_lt hFk)
      have hmk : k < (mapTo (turnP n) F k).length := by rw [hml]; exact hFk
      have hrk : nthr (mapTo (turnP n) F k) k = F[k] := by simp [nthr, mapTo_get _ _ hFk]
      obtain ⟨xs, hxs⟩ : ∃ xs, F[k] = xs := ⟨_, rfl⟩
      have hpx : Pn n xs := by rw [← hxs]; exact HG.out _ (List.getElem_mem _)
      have k0 := hf.rows.own.cell (j := k) (by rw [hf.rows.len]; exact hmk)
      have e0 : vk[k]'(by rw [hf.rows.len]; exact hmk) = nthv vk k := by rw [nthv_lt (by rw [hf.rows.len]; exact hmk)]
      rw [e0] at k0
      have r0 := (hf.rows.row k hmk).ints
      rw [hrk, hxs] at r0
      have s0 := r0.isSl
      obtain ⟨q0, hq0⟩ : ∃ q, nthv vk k = q := ⟨_, rfl⟩
      rw [hq0] at k0 r0 s0
      have hset := mapTo_set (turnP n) F hFk
      rw [hxs] at hset
      have HF := Lib.hid hf; have HB := Lib.hid hb; have HR0 := Lib.hid r0; have HPX := Lib.hid hpx; have HSET := Lib.hid hset; have HMK := Lib.hid hmk
      clear hf hb r0 hpx hset hml hmk hrk hxs e0 hq0 hFk
      rename World => W0
      go_wp2_with fail
      refine (clone_calls q0 xs _ HR0.out (by rw [HPX.out.len]; omega)).mono ?_
      rintro e w1 ⟨q, rfl, hq, hb1⟩
      have sq := hq.isSl
      have HQ := Lib.hid hq; have HB1 := Lib.hid hb1
      clear hq hb1
      go_wp2_with fail
      refine (reverse_calls q xs _ _ HQ.out (by rw [HPX.out.len]; omega)).mono ?_
      rintro e w2 ⟨⟨u, rfl⟩, hq2, hb2⟩
      have lq := hq2.len
      rw [List.length_reverse, HPX.out.len] at lq
      have HQ2 := Lib.hid hq2; have HB2 := Lib.hid (HB1.out.trans hb2)
      clear hq2 hb2
      go_wp2_with fail
      go_loopw [23] (fun s wr => ∃ j : Nat, s = .int .i64 j ∧ j ≤ n ∧ OwnI wr W0.heap.size q (mapTo (fun x => (n : Int) - 1 - x) xs.reverse j) ∧ Below W0.heap.size W0 wr) (fun s _ => n - (intOf s).toNat)
      case atStart => exact ⟨0, rfl, Nat.zero_le _, by rw [mapTo_zero]; exact HQ2.out, HB2.out⟩
      case round =>
        obtain ⟨j, rfl, hj, ho, hbj⟩ := hrel
        have hrl : xs.reverse.length = n := by rw [List.length_reverse, HPX.out.len]
        by_cases hjn : j < n
        · have hjr : j < xs.reverse.length := by rw [hrl]; exact hjn
          have hjm : j < (mapTo (fun x => (n : Int) - 1 - x) xs.reverse j).length := by rw [mapTo_length _ _ (Nat.le_of_lt hjr)]; exact hjr
          have cj := ho.cell hjm
          have fj := ho.frozen hjm
          have hnj : nth (mapTo (fun x => (n : Int) - 1 - x) xs.reverse j) j = xs.reverse[j] := by rw [nth_lt hjm]; have := mapTo_get (fun x => (n : Int) - 1 - x) xs.reverse hjr; exact (List.getElem?_eq_some_iff.1 this).2
          rw [hnj] at cj
          have hst := mapTo_set (fun x => (n : Int) - 1 - x) xs.reverse hjr
          have hbd : 0 ≤ xs.reverse[j] ∧ xs.reverse[j] < n := by
            have hm := List.mem_reverse.1 (List.getElem_mem hjr)
            have h3 := HPX.out.perm.range _ hm
            rw [HPX.out.len] at h3
            exact h3
          obtain ⟨x, hx⟩ : ∃ x, xs.reverse[j] = x := ⟨_, rfl⟩
          rw [hx] at cj hst hbd
          have o2 := ho.set hjm ((n : Int) - 1 - x)
          have c0 := (HF.out.below hbj).c0
          have w1 : IntKind.i64.wrap ((n : Int) - 1) = (n : Int) - 1 := IntWalk.i64_in _ ⟨by omega, by omega⟩
          have w2 : IntKind.i64.wrap ((n : Int) - 1 - x) = (n : Int) - 1 - x := IntWalk.i64_in _ ⟨by omega, by omega⟩
          have hb2 := hbj.setCell (ho.ge hjm) (.int .i64 ((n : Int) - 1 - x))
          rw [hst] at o2
          have HO2 := Lib.hid o2; have HB22 := Lib.hid hb2
          clear o2 hb2 hst hbd hnj hx ho hbj hjm hjr
          go_wp2_with fail
          go_roundw
          case rel => exact ⟨j + 1, by go_num, by omega, HO2.out, HB22.out⟩
          case measure => simp [intOf]; omega
        · obtain rfl : j = n := by omega
          have hall : mapTo (fun x => (j : Int) - 1 - x) xs.reverse j = turnP j xs := by
            have := mapTo_all (fun x => (j : Int) - 1 - x) xs.reverse
            rw [hrl] at this
            rw [this]; rfl
          rw [hall] at ho
          have hf2 := HF.out.below hbj
          have c2 := hf2.c2
          have hm := HMK.out
          obtain ⟨z1, k1⟩ : ∃ z, wr.cell? (vat v k) = some z := ⟨_, hf2.rows.own.cell (j := k) (by rw [hf2.rows.len]; exact hm)⟩
          have k2 := hf2.rows.own.frozen (j := k) (by have := hf2.rows.own.isSl.le; omega)
          have hqb : Go.Sl.row q = some (vblk q) := row_some (by have := ho.ints.cap; rw [turn_length, HPX.out.len] at this; omega)
          have hqB := (ho.lt _ hqb).1
          have hap : Go.Sl.row v ≠ some (vblk q) := fun e => by have := (HF.out.rows.own.lt _ e).2; omega
          have hput := hf2.put hm (ho.low (by have := HF.out.ge; have := HF.out.lt; omega)) (by rw [turn_length, HPX.out.len]; omega) hap (fun t ht e => by have := (HF.out.rows.blk ht).2; omega)
          rw [HSET.out] at hput
          have hbb : Below B w (wr.setCell (vat v k) q) := (HB.out.trans (hbj.mono (by have := HF.out.ge; have := HF.out.lt; omega))).setCell (HF.out.rows.own.ge (by have := sv.le; omega) k) q
          have HP := Lib.hid hput; have HBB := Lib.hid hbb
          clear hput hbb hf2 hqb hqB hap ho hbj hall hrl
          go_wp2_with fail
          go_roundw
          case rel => exact ⟨k + 1, _, by go_num, by omega, HP.out, HBB.out⟩
          case measure => simp [intOf]; omega
    · obtain rfl : k = L := by omega
      have HF := Lib.hid hf; have HB := Lib.hid hb
      clear hf hb
      go_wp2_with fail
      go_end0
      have h1 := HF.out
      have h3 := mapTo_all (turnP n) F
      rw [HL.out] at h3
      rw [h3] at h1
      exact ⟨_, ⟨_, rfl⟩, h1, HB.out⟩

end Go.Proofs.Ytnmklkjlcpgjmaa


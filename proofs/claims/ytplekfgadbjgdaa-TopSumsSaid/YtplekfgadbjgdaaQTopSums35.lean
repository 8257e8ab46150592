/- polymatrix.Expand walked: the determinant by the first row. -/
import Derived.Test.YtplekfgadbjgdaaQTopSums0
import Derived.Test.YtplekfgadbjgdaaQTopSums1
import Derived.Test.YtplekfgadbjgdaaQTopSums2
import Derived.Test.YtplekfgadbjgdaaQTopSums3
import Derived.Test.YtplekfgadbjgdaaQTopSums4
import Derived.Test.YtplekfgadbjgdaaQTopSums5
import Derived.Test.YtplekfgadbjgdaaQTopSums6
import Derived.Test.YtplekfgadbjgdaaQTopSums7
import Derived.Test.YtplekfgadbjgdaaQTopSums8
import Derived.Test.YtplekfgadbjgdaaQTopSums9
import Derived.Test.YtplekfgadbjgdaaQTopSums10
import Derived.Test.YtplekfgadbjgdaaQTopSums11
import Derived.Test.YtplekfgadbjgdaaQTopSums12
import Derived.Test.YtplekfgadbjgdaaQTopSums13
import Derived.Test.YtplekfgadbjgdaaQTopSums14
import Derived.Test.YtplekfgadbjgdaaQTopSums15
import Derived.Test.YtplekfgadbjgdaaQTopSums19
import Derived.Test.YtplekfgadbjgdaaQTopSums23
import Derived.Test.YtplekfgadbjgdaaQTopSums24
import Derived.Test.YtplekfgadbjgdaaQTopSums26
import Derived.RangeFuncNested
import Derived.RangeFuncBound
import Derived.RangeFuncCalls
import Derived.RangeFuncLeaves
import Derived.RangeFuncBox
import Derived.Shelf.Abstract
import Derived.Shelf.RegionOpen
import Derived.OwnWalkIn
import Derived.TacticsInMore
import Derived.LoopNIn
import Derived.LoopIn
import Derived.Maps.AppendAt
import Derived.Deep.RegionLaw
namespace Go.Proofs.Ytplekfgadbjgdaa
open Go.RowKit Go.Sl

theorem expand_zero (v : Value) (w : World) (hv : IsSl v) (hl : vlen v = 0) :
    Calls Try.prog 79 #[v] w fun e w' => ∃ u, e = .returned (.agg #[.int .i64 (pterm 1 0).low, u]) ∧ OwnI w' w.heap.size u (pterm 1 0).c ∧ Below w.heap.size w w' := by
  obtain ⟨W1, hW1⟩ : ∃ W1, W1 = w.alloc (.cells #[.int .i64 0, .slice none 0 0] 40) := ⟨_, rfl⟩
  have b1 : Below w.heap.size w W1 := by rw [hW1]; exact (Below.refl _ _).alloc (Nat.le_refl _) _
  have p1 : Pair W1 w.heap.size 40 (.int .i64 0) (.slice none 0 0) := by rw [hW1]; exact pair_new _ _ _ _
  have z1 : w.heap.size < W1.heap.size := by rw [hW1]; simp
  have HW1 := Lib.hid hW1.symm; have B1 := Lib.hid b1; have P1 := Lib.hid p1
  clear hW1 b1 p1
  go_enter Try.func79, Try.ntmps79
  go_wp2_with fail
  rw [HW1.out]
  refine (term_calls 1 0 _ (by omega) (by omega)).mono ?_
  rintro e u1 ⟨s, rfl, hs, hb⟩
  have p2 := P1.out.below hb
  have B2 := Lib.hid (Below.chain B1.out hb)
  obtain ⟨s1, s2, s3, rfl, -⟩ := hs.isSl.cases
  have ss := hs.isSl
  have hlt := p2.lt
  have hne : ∀ k, Go.Sl.row (.slice s1 s2 s3) = some k → w.heap.size ≠ k := fun k hk e => by have := (hs.lt k hk).1; omega
  have HS := Lib.hid (hs.low (show w.heap.size ≤ W1.heap.size by omega)); have HNE := Lib.hid hne
  have e0 := p2.cell0; have e1 := p2.cell1; have f0 := p2.free0; have f1 := p2.free1
  clear hb hs p2 hne
  go_wp2_with fail
  refine bodyPost_ret (v := .agg #[.int .i64 (pterm 1 0).low, .slice s1 s2 s3]) (by simp [results, Try.results79, go_sem, e0, e1]) rfl ⟨_, rfl, ?_, ?_⟩
  · exact (HS.out.setOther (fun k hk => HNE.out k hk) _).setOther (fun k hk => HNE.out k hk) _
  · exact (B2.out.setCell (p := ⟨w.heap.size, 0, none⟩) (by simp) _).setCell (p := ⟨w.heap.size, 1, none⟩) (by simp) _

/-- Own blocks of different types are different ones. -/
theorem own_types {W : World} {B B' : Nat} {e e' : TypeId} (hne : e ≠ e') {s s' : Nat} {u v : Value} {cs ds : List Value} (h : Go.Sl.Own W B e s u cs) (k : Go.Sl.Own W B' e' s' v ds) : ∀ b, Go.Sl.row u = some b → Go.Sl.row v ≠ some b := by
  intro b hb hb'
  obtain ⟨h0, rfl⟩ := row_eq hb
  obtain ⟨k0, e1⟩ := row_eq hb'
  obtain ⟨_, _, c1, x1, _⟩ := h.2.2 h0
  obtain ⟨_, _, c2, x2, _⟩ := k.2.2 k0
  rw [e1, x1] at x2
  injection x2 with x2
  injection x2 with _ x3
  exact hne x3
def cutV (c : Nat) (r : List Value) : List Value := r.take c ++ r.drop (c + 1)
/-- Rows that have been cut so far. -/
def CutRows (W : World) (B : Nat) (u : Value) (ws : List Value) (uss : Nat → List Value) (k j : Nat) (m : List (List LP)) : Prop :=
  Go.Sl.Own W B 92 1 u ws ∧ ws.length = j ∧ ∀ i, i < j → Go.Sl.Own W B 40 2 (nthv ws i) (pcs (cutV k (uss (i + 1))) (cutR k (nthm m (i + 1))))
theorem CutRows.below {W W' : World} {B : Nat} {u : Value} {ws : List Value} {uss : Nat → List Value} {k j : Nat} {m : List (List LP)} (h : CutRows W B u ws uss k j m) (hb : Below W.heap.size W W') : CutRows W' B u ws uss k j m :=
  ⟨h.1.below hb, h.2.1, fun i hi => (h.2.2 i hi).below hb⟩
theorem CutRows.push {W W' : World} {B : Nat} {u r u' : Value} {ws : List Value} {uss : Nat → List Value} {k j : Nat} {m : List (List LP)} (h : CutRows W B u ws uss k j m)
    (hr : Go.Sl.Own W B 40 2 r (pcs (cutV k (uss (j + 1))) (cutR k (nthm m (j + 1))))) (hg : W.grownBy W' (Go.Sl.row u)) (ho : Go.Sl.Own W' B 92 1 u' (ws ++ [r])) : CutRows W' B u' (ws ++ [r]) uss k (j + 1) m := by
  have hn : (40 : TypeId) ≠ 92 := by decide
  refine ⟨ho, by simp [h.2.1], fun i hi => ?_⟩
  by_cases e : i = j
  · subst e
    have e2 : nthv (ws ++ [r]) i = r := by rw [← h.2.1]; simp [nthv]
    rw [e2]
    exact hr.grown hg fun b hb hb' => own_types hn hr h.1 b hb hb'
  · have e2 : nthv (ws ++ [r]) i = nthv ws i := by
      unfold nthv; rw [List.getD_eq_getElem?_getD, List.getD_eq_getElem?_getD, List.getElem?_append_left (by rw [h.2.1]; omega)]
    rw [e2]
    have hi2 := h.2.2 i (by omega)
    exact hi2.grown hg fun b hb hb' => own_types hn hi2 h.1 b hb hb'
theorem nthv_cutV {c j : Nat} {us : List Value} (hc : c < us.length) : nthv (cutV c us) j = nthv us (Go.Det.skp c j) := by
  unfold nthv Go.Det.skp cutV
  rw [List.getD_eq_getElem?_getD, List.getD_eq_getElem?_getD]
  by_cases e : j < c
  · rw [if_pos e, List.getElem?_append_left (by rw [List.length_take]; omega), List.getElem?_take, if_pos e]
  · rw [if_neg e, List.getElem?_append_right (by rw [List.length_take]; omega), List.getElem?_drop, List.length_take, show min c us.length = c by omega]
    congr 2; omega
/-- The cut rows read as the smaller matrix. -/
theorem CutRows.mread {w W : World} {B : Nat} {u : Value} {vs ws : List Value} {uss : Nat → List Value} {k n : Nat} {m : List (List LP)} (h : CutRows W B u ws uss k n m) (hm : SqM (n + 1) m) (hk : k < n + 1)
    (hu : ∀ i, i < n + 1 → PRead w (nthv vs i) (uss i) (nthm m i)) (hb : Below w.heap.size w W) : MRead W u ws (restM k m) := by
  refine ⟨h.1.sl, by rw [h.2.1, restM_length, hm.1]; rfl, fun i hi => ?_⟩
  rw [restM_length, hm.1] at hi
  rw [nthm_restM (by rw [hm.1]; omega)]
  have hp := hu (i + 1) (by omega)
  have hl : (nthm m (i + 1)).length = n + 1 := hm.2 _ (by omega)
  have hul : (uss (i + 1)).length = n + 1 := by rw [hp.len, hl]
  refine ⟨cutV k (uss (i + 1)), (h.2.2 i (by omega)).sl, by simp [cutV, cutR, hp.len], fun j hj => ?_⟩
  rw [cutR_length (by omega)] at hj
  rw [nthp_cutR (by omega) hj, nthv_cutV (by omega)]
  exact (hp.each _ (by unfold Go.Det.skp; split <;> omega)).below hb
theorem MRead.tail {W : World} {v : Value} {vs : List Value} {m : List (List LP)} (h : MRead W v vs m) (h0 : 0 < m.length) : Sl W (vcut v 1 m.length (vcap v) 1) 1 (vs.drop 1) := by
  have hl := h.vlen
  have hcap := h.isSl.le
  have := h.sl.cut (l := 1) (r := m.length) (m := vcap v) (by omega) (by omega) (by omega) (Nat.le_refl _)
  have e : (vs.drop (1 * 1)).take ((m.length - 1) * 1) = vs.drop 1 := List.take_of_length_le (by simp [h.len])
  rwa [e] at this
theorem choose_rows {W : World} {v : Value} {vs : List Value} {m : List (List LP)} (h : MRead W v vs m) : ∃ uss : Nat → List Value, ∀ i, i < m.length → PRead W (nthv vs i) (uss i) (nthm m i) := by
  have h1 : ∀ i, ∃ us : List Value, i < m.length → PRead W (nthv vs i) us (nthm m i) := fun i => by
    by_cases hi : i < m.length
    · obtain ⟨us, hu⟩ := h.row i hi
      exact ⟨us, fun _ => hu⟩
    · exact ⟨[], fun h => absurd h hi⟩
  exact Classical.skolem.1 h1

set_option maxRecDepth 100000 in
set_option maxHeartbeats 8000000 in
theorem expand_calls (n : Nat) : ∀ (v : Value) (vs : List Value) (m : List (List LP)) (w : World), MRead w v vs m → SqM n m → n ≤ 6 → ExpFit n m →
    Calls Try.prog 79 #[v] w fun e w' => ∃ u, e = .returned (.agg #[.int .i64 (expandL n m).low, u]) ∧ OwnI w' w.heap.size u (expandL n m).c ∧ Below w.heap.size w w' := by
  induction n with
  | zero => intro v vs m w hm hs _ _; exact expand_zero v w hm.isSl (by rw [hm.vlen, hs.1])
  | succ n ih =>
    intro v vs m w hm hs hn6 hfit
    have sv := hm.isSl
    have lv := hm.vlen
    rw [hs.1] at lv
    obtain ⟨uss, huss⟩ := choose_rows hm
    rw [hs.1] at huss
    obtain ⟨F, hF⟩ : ∃ F, F = fun c => pmul (nthp (nthm m 0) c) (expandL n (restM c m)) := ⟨_, rfl⟩
    have hgoal : expandL (n + 1) m = expTo F (n + 1) := by rw [hF]; rfl
    have hFc : ∀ c, F c = pmul (nthp (nthm m 0) c) (expandL n (restM c m)) := fun c => by rw [hF]
    have hfit2 : ∀ c, c < n + 1 → PFit (nthp (nthm m 0) c) ∧ PFit (expandL n (restM c m)) ∧ n1 (nthp (nthm m 0) c).c * n1 (expandL n (restM c m)).c ≤ 4000000000000000000 ∧ PFit (expTo F c) ∧ PFit (F c) ∧ n1 (expTo F c).c + 1000 * n1 (F c).c ≤ 4000000000000000000 ∧ ExpFit n (restM c m) := by
      intro c hc; rw [hF]; exact hfit c hc
    rw [hgoal]
    have HIH := Lib.hid ih; have HS := Lib.hid hs; have HM := Lib.hid hm; have HFIT := Lib.hid hfit2; have HFC := Lib.hid hFc; have HUS := Lib.hid huss
    clear hF hgoal hFc hfit hfit2 hs hm ih huss
    obtain ⟨W2, hW2⟩ : ∃ W2, W2 = (w.alloc (.cells #[.int .i64 0, .slice none 0 0] 40)).alloc (.cells #[.int .i64 0, .slice none 0 0] 40) := ⟨_, rfl⟩
    obtain ⟨p2, p3, b2, z2⟩ := two _ _ _ _ _ _ _ hW2
    have HW2 := Lib.hid hW2.symm; have B2 := Lib.hid b2; have P2 := Lib.hid p2; have P3 := Lib.hid p3; have Z2 := Lib.hid z2
    have r0 := (HUS.out 0 (by omega)).below b2
    have cw := HM.out.cell (i := 0) (by rw [HS.out.1]; omega)
    have c0 : ∀ o o', ((w.alloc o).alloc o').cell? (vat v 0) = some (nthv vs 0) := fun o o' => (Below.cell (((Below.refl w.heap.size w).alloc (Nat.le_refl _) o).alloc (by simp) o') (World.block_lt_of_cell? w _ cw)).trans cw
    have s0 := r0.isSl
    have l0 := r0.vlen
    rw [HS.out.2 0 (by omega)] at l0
    have n0 : (((n + 1 : Nat) : Int) == 0) = false := by rw [beq_eq_false_iff_ne]; omega
    clear hW2 p2 p3 b2 z2 r0 cw
    have hN : ((n + 1 : Nat) : Int) ≤ 7 := by omega
    obtain ⟨N, hNe⟩ : ∃ N, n + 1 = N := ⟨_, rfl⟩
    have HNE := Lib.hid hNe
    rw [hNe] at lv l0 n0 hN HS HUS HFIT ⊢
    have hN1 : 0 < N := by omega
    clear hNe
    go_enter Try.func79, Try.ntmps79
    go_wp2_with fail
    rw [HW2.out]
    clear c0
    go_loopw [4, 18] (fun s i wr => ∃ (k : Nat) (v1 : Value), k ≤ N ∧ i = .int .i64 k ∧ s = .int .i64 (if k % 2 = 0 then 1 else -1) ∧ Pair wr (w.heap.size + 1) 40 (.int .i64 (expTo F k).low) v1 ∧ OwnI wr (w.heap.size + 2) v1 (expTo F k).c ∧ Pair wr w.heap.size 40 (.int .i64 0) (.slice none 0 0) ∧ Below w.heap.size w wr ∧ w.heap.size + 2 ≤ wr.heap.size) (fun _ i _ => N - (intOf i).toNat)
    case atStart => exact ⟨0, _, Nat.zero_le _, rfl, rfl, P3.out, ownI_nil _ _, P2.out, B2.out, by have := Z2.out; omega⟩
    case round =>
      rename World => Wo
      obtain ⟨k, v1, hk, rfl, rfl, q3, o3, q2, hb, hz⟩ := hrel
      obtain ⟨g1, g2, g3, rfl, -⟩ := o3.isSl.cases
      have s3 := o3.isSl
      by_cases hlt : k < N
      · have rr := (HUS.out 0 (by omega)).below hb
        have hk0 : k < (nthm m 0).length := by rw [HS.out.2 0 (by omega)]; exact hlt
        have e0 := rr.low hk0; have e1 := rr.c hk0
        have he := rr.each k hk0
        have se := he.isSl
        have HE := Lib.hid he; have Q3 := Lib.hid q3; have O3 := Lib.hid o3; have Q2 := Lib.hid q2; have HB := Lib.hid hb
        clear rr he q3 o3 q2 hb
        obtain ⟨E, hE⟩ : ∃ E, nthv (uss 0) k = E := ⟨_, rfl⟩
        rw [hE] at e1 se HE
        obtain ⟨P, hP⟩ : ∃ P, nthp (nthm m 0) k = P := ⟨_, rfl⟩
        rw [hP] at e0 HE
        have HP := Lib.hid hP
        clear hE hP
        obtain ⟨S, hS⟩ : ∃ S : Int, (if k % 2 = 0 then 1 else -1) = S := ⟨_, rfl⟩
        have hS1 : S = 1 ∨ S = -1 := by rw [← hS]; split <;> simp
        have hSn : (if (k + 1) % 2 = 0 then 1 else -1) = -S := by rw [← hS]; split <;> split <;> omega
        have hwS : IntKind.i64.wrap (-S) = -S := IntWalk.i64_in _ ⟨by omega, by omega⟩
        rw [hS]
        have HSE := Lib.hid hS; have HSN := Lib.hid hSn; have HS1 := Lib.hid hS1
        clear hS hSn hS1
        have st : IsSl (vcut v 1 N (vcap v) 1) := isSl_cut sv (by omega) (by have := sv.le; omega) (Nat.le_refl _)
        have lt : vlen (vcut v 1 N (vcap v) 1) = n := by rw [vlen_cut]; have := HNE.out; omega
        go_wp2_with fail
        go_loopw [7, 26] (fun u i wi => ∃ (j : Nat) (ws : List Value), j ≤ n ∧ i = .int .i64 j ∧ CutRows wi (Wo.heap.size + 1) u ws uss k j m ∧ Pair wi Wo.heap.size 40 (.int .i64 P.low) E ∧ Below Wo.heap.size Wo wi ∧ Wo.heap.size + 1 ≤ wi.heap.size) (fun _ i _ => n - (intOf i).toNat)
        case atStart => exact ⟨0, [], Nat.zero_le _, rfl, ⟨own_nil _ _ _ _, rfl, fun i hi => by omega⟩, pair_new _ _ _ _, (Below.refl _ _).alloc (Nat.le_refl _) _, by simp⟩
        case round =>
          obtain ⟨j, ws, hj, rfl, hcr, hpp, hbi, hzi⟩ := hrel
          rename_i u7 _
          have su := hcr.1.1
          by_cases hlj : j < n
          · have hjn : j + 1 < N := by have := HNE.out; omega
            have hbw : Below w.heap.size w wr := HB.out.trans (hbi.mono HB.out.size)
            have rj := (HUS.out (j + 1) hjn).below hbw
            have hrl : (nthm m (j + 1)).length = N := HS.out.2 _ hjn
            have cj : wr.cell? (vat (vcut v 1 N (vcap v) 1) j) = some (nthv vs (j + 1)) := by
              rw [vat_cut sv j (by have := sv.le; omega) (Nat.le_refl _), Nat.one_mul, Nat.add_comm]
              exact (HM.out.below hbw).cell (by rw [HS.out.1]; exact hjn)
            obtain ⟨r, hr⟩ : ∃ r, nthv vs (j + 1) = r := ⟨_, rfl⟩
            rw [hr] at cj rj
            have sr := rj.isSl
            have lr := rj.vlen
            rw [hrl] at lr
            have hcap := sr.le
            have hkc : k ≤ vcap r := by omega
            have hk1 : k + 1 ≤ N := hlt
            have hwk : IntKind.i64.wrap ((k : Int) + 1) = (k : Int) + 1 := IntWalk.i64_in _ ⟨by omega, by omega⟩
            have hto : ((k : Int) + 1).toNat = k + 1 := by omega
            have hk2 : (k : Int) + 1 ≤ N := by omega
            have hk3 : (0 : Int) ≤ (k : Int) + 1 := by omega
            have tk := rj.takeL (c := k) (by rw [hrl]; omega)
            have dk := rj.dropL (c := k + 1) (by rw [hrl]; omega)
            rw [hrl] at dk
            have sA := tk.isSl; have sB := dk.isSl
            have hdr : Below wr.heap.size wr wr.drew := (Below.refl _ _).drew
            have HC2 := Lib.hid (rowsC_2 (tk.sl.below hdr) (dk.sl.below hdr) tk.one dk.one 92)
            have HDA := Lib.hid (fun o => hdr.alloc (Nat.le_refl wr.heap.size) o)
            have hln : (pcs ((uss (j + 1)).take k) ((nthm m (j + 1)).take k) ++ pcs ((uss (j + 1)).drop (k + 1)) ((nthm m (j + 1)).drop (k + 1))).length ≤ 100000 := by
              rw [List.length_append, pcs_length _ _ (by simp [rj.len]), pcs_length _ _ (by simp [rj.len])]; simp only [List.length_take, List.length_drop]; omega
            have HLN := Lib.hid hln; have HRJ := Lib.hid rj; have HCR := Lib.hid hcr; have HPP := Lib.hid hpp; have HBI := Lib.hid hbi
            clear hr tk dk rj hcr hpp hbi hbw hln hdr
            go_wp2_with fail
            refine wp_region_held_drew (S := fun _ => True) (by kernel_rfl) (trivial) (fun hHeld => ?_)
            refine' wpAnyH_take (i := 0) (oi := ?oiz1) (v := ?vz1) ?haz1 (by kernel_rfl) ?hfz1 ?hrz1 ?hQz1 (Or.inl ⟨?hwz1, ?hyz1⟩) (by assumption) ?restz1
            case haz1 => (simp only [List.getElem?_toArray, List.getElem?_cons_zero]; exact rfl)
            case hQz1 => exact fun _ _ _ h => h
            case hfz1 => kernel_rfl
            case hrz1 => kernel_rfl
            case hwz1 => rfl
            case hyz1 => (intro w hSw; (try dsimp only at hSw); skip; go_simp; (try with_reducible rfl))
            try simp only [Act.put, List.setIfInBounds_toArray, List.set_cons_zero, List.set_cons_succ]
            refine' wpAnyH_take (i := 1) (oi := ?oiz2) (v := ?vz2) ?haz2 (by kernel_rfl) ?hfz2 ?hrz2 ?hQz2 (Or.inl ⟨?hwz2, ?hyz2⟩) (by assumption) ?restz2
            case haz2 => (simp only [List.getElem?_toArray, List.getElem?_cons_succ, List.getElem?_cons_zero]; exact rfl)
            case hQz2 => exact fun _ _ _ h => h
            case hfz2 => kernel_rfl
            case hrz2 => kernel_rfl
            case hwz2 => rfl
            case hyz2 => (intro w hSw; (try dsimp only at hSw); skip; go_simp; (try with_reducible rfl))
            try simp only [Act.put, List.setIfInBounds_toArray, List.set_cons_zero, List.set_cons_succ]
            refine' wpAnyH_take (i := 2) (oi := ?oiz3) (v := ?vz3) ?haz3 (by kernel_rfl) ?hfz3 ?hrz3 ?hQz3 (Or.inl ⟨?hwz3, ?hyz3⟩) (by assumption) ?restz3
            case haz3 => (simp only [List.getElem?_toArray, List.getElem?_cons_succ, List.getElem?_cons_zero]; exact rfl)
            case hQz3 => exact fun _ _ _ h => h
            case hfz3 => kernel_rfl
            case hrz3 => kernel_rfl
            case hwz3 => rfl
            case hyz3 => (intro w hSw; (try dsimp only at hSw); skip; go_simp; (try with_reducible rfl))
            try simp only [Act.put, List.setIfInBounds_toArray, List.set_cons_zero, List.set_cons_succ]
            refine' wpAnyH_take (i := 3) (oi := ?oiz4) (v := ?vz4) ?haz4 (by kernel_rfl) ?hfz4 ?hrz4 ?hQz4 (Or.inl ⟨?hwz4, ?hyz4⟩) (by assumption) ?restz4
            case haz4 => (simp only [List.getElem?_toArray, List.getElem?_cons_succ, List.getElem?_cons_zero]; exact rfl)
            case hQz4 => exact fun _ _ _ h => h
            case hfz4 => kernel_rfl
            case hrz4 => kernel_rfl
            case hwz4 => rfl
            case hyz4 => (intro w hSw; (try dsimp only at hSw); skip; go_simp; (try with_reducible rfl))
            try simp only [Act.put, List.setIfInBounds_toArray, List.set_cons_zero, List.set_cons_succ]
            refine' wpAnyH_take (i := 4) (oi := ?oiz5) (v := ?vz5) ?haz5 (by kernel_rfl) ?hfz5 ?hrz5 ?hQz5 (Or.inl ⟨?hwz5, ?hyz5⟩) (by assumption) ?restz5
            case haz5 => (simp only [List.getElem?_toArray, List.getElem?_cons_succ, List.getElem?_cons_zero]; exact rfl)
            case hQz5 => exact fun _ _ _ h => h
            case hfz5 => kernel_rfl
            case hrz5 => kernel_rfl
            case hwz5 => rfl
            case hyz5 => (intro w hSw; (try dsimp only at hSw); skip; go_simp; (try with_reducible rfl))
            try simp only [Act.put, List.setIfInBounds_toArray, List.set_cons_zero, List.set_cons_succ]
            refine' wpAnyH_take (i := 5) (oi := ?oiz6) (v := ?vz6) ?haz6 (by kernel_rfl) ?hfz6 ?hrz6 ?hQz6 (Or.inl ⟨?hwz6, ?hyz6⟩) (by assumption) ?restz6
            case haz6 => (simp only [List.getElem?_toArray, List.getElem?_cons_succ, List.getElem?_cons_zero]; exact rfl)
            case hQz6 => exact fun _ _ _ h => h
            case hfz6 => kernel_rfl
            case hrz6 => kernel_rfl
            case hwz6 => rfl
            case hyz6 => (intro w hSw; (try dsimp only at hSw); skip; go_simp; (try with_reducible rfl))
            try simp only [Act.put, List.setIfInBounds_toArray, List.set_cons_zero, List.set_cons_succ]
            refine' wpAnyH_take (i := 6) (oi := ?oiz7) (v := ?vz7) ?haz7 (by kernel_rfl) ?hfz7 ?hrz7 ?hQz7 (Or.inl ⟨?hwz7, ?hyz7⟩) (by assumption) ?restz7
            case haz7 => (simp only [List.getElem?_toArray, List.getElem?_cons_succ, List.getElem?_cons_zero]; exact rfl)
            case hQz7 => exact fun _ _ _ h => h
            case hfz7 => kernel_rfl
            case hrz7 => kernel_rfl
            case hwz7 => rfl
            case hyz7 => (intro w hSw; (try dsimp only at hSw); skip; go_simp; (try with_reducible rfl))
            try simp only [Act.put, List.setIfInBounds_toArray, List.set_cons_zero, List.set_cons_succ]
            refine' wpAnyH_take (i := 7) (oi := ?oiz8) (v := ?vz8) ?haz8 (by kernel_rfl) ?hfz8 ?hrz8 ?hQz8 (Or.inl ⟨?hwz8, ?hyz8⟩) (by assumption) ?restz8
            case haz8 => (simp only [List.getElem?_toArray, List.getElem?_cons_succ, List.getElem?_cons_zero]; exact rfl)
            case hQz8 => exact fun _ _ _ h => h
            case hfz8 => kernel_rfl
            case hrz8 => kernel_rfl
            case hwz8 => rfl
            case hyz8 => (intro w hSw; (try dsimp only at hSw); skip; go_simp; (try with_reducible rfl))
            try simp only [Act.put, List.setIfInBounds_toArray, List.set_cons_zero, List.set_cons_succ]
            refine wpAnyH_ready (rs := [8]) (by kernel_rfl) (by simp) ?_
            refine' AllReadyH.cons (o := ?oiz9) ?haz9 (fun K hK => ?stepz9) AllReadyH.nil
            case haz9 => (simp only [List.getElem?_toArray, List.getElem?_cons_succ, List.getElem?_cons_zero]; exact rfl)
            refine wp_prows2 (.tmp 33) (.tmp 37) rfl rfl rfl sA sB ?_
            refine hK.out _ _ (trivial) (fun hHeld => ?_)
            clear hK K
            try simp only [Act.put, List.setIfInBounds_toArray, List.set_cons_zero, List.set_cons_succ]
            refine wpAnyH_ready (rs := [9]) (by kernel_rfl) (by simp) ?_
            refine' AllReadyH.cons (o := ?oiz10) ?haz10 (fun K hK => ?stepz10) AllReadyH.nil
            case haz10 => (simp only [List.getElem?_toArray, List.getElem?_cons_succ, List.getElem?_cons_zero]; exact rfl)
            go_simp
            go_at_call 117
            refine (concatP_calls _ _ _ _ HC2.out (by rw [List.flatten_cons, List.flatten_cons, List.flatten_nil, List.append_nil]; exact HLN.out)).mono ?_
            rintro e w3 ⟨out, rfl, ho, hb3⟩
            have so := ho.1
            have HO := Lib.hid ho; have HB3 := Lib.hid (Below.chain (HDA.out _) hb3)
            clear ho hb3
            refine hK.out _ _ (trivial) (fun hHeld => ?_)
            clear hK K
            try simp only [Act.put, List.setIfInBounds_toArray, List.set_cons_zero, List.set_cons_succ]
            refine wpAnyH_ready (rs := [10]) (by kernel_rfl) (by simp) ?_
            refine' AllReadyH.cons (o := ?oiz11) ?haz11 (fun K hK => ?stepz11) AllReadyH.nil
            case haz11 => (simp only [List.getElem?_toArray, List.getElem?_cons_succ, List.getElem?_cons_zero]; exact rfl)
            refine wp_prows1 (.tmp 39) rfl rfl so ?_
            refine hK.out _ _ (trivial) (fun hHeld => ?_)
            clear hK K
            try simp only [Act.put, List.setIfInBounds_toArray, List.set_cons_zero, List.set_cons_succ]
            refine wpAnyH_ready (rs := [11]) (by kernel_rfl) (by simp) ?_
            refine' AllReadyH.cons (o := ?oiz12) ?haz12 (fun K hK => ?stepz12) AllReadyH.nil
            case haz12 => (simp only [List.getElem?_toArray, List.getElem?_cons_succ, List.getElem?_cons_zero]; exact rfl)
            refine wp_pushPRow (v := u7) (.tmp 30) (.tmp 40) rfl rfl rfl (HCR.out.below HB3.out).1 so (Nat.le_trans hzi HB3.out.size) (by rw [HCR.out.2.1]; omega) ?_
            intro u8 w4 hu8 hg8 hr8
            refine hK.out _ _ (trivial) (fun hHeld => ?_)
            clear hK K
            try simp only [Act.put, List.setIfInBounds_toArray, List.set_cons_zero, List.set_cons_succ]
            refine' wpAnyH_take (i := 12) (oi := ?oiz13) (v := ?vz13) ?haz13 (by kernel_rfl) ?hfz13 ?hrz13 ?hQz13 (Or.inl ⟨?hwz13, ?hyz13⟩) (by assumption) ?restz13
            case haz13 => (simp only [List.getElem?_toArray, List.getElem?_cons_succ, List.getElem?_cons_zero]; exact rfl)
            case hQz13 => exact fun _ _ _ h => h
            case hfz13 => kernel_rfl
            case hrz13 => kernel_rfl
            case hwz13 => rfl
            case hyz13 => (intro w hSw; (try dsimp only at hSw); skip; go_simp; (try with_reducible rfl))
            try simp only [Act.put, List.setIfInBounds_toArray, List.set_cons_zero, List.set_cons_succ]
            refine wpAnyH_done (by kernel_rfl) ?_ _
            have hcut : [pcs ((uss (j + 1)).take k) ((nthm m (j + 1)).take k), pcs ((uss (j + 1)).drop (k + 1)) ((nthm m (j + 1)).drop (k + 1))].flatten = pcs (cutV k (uss (j + 1))) (cutR k (nthm m (j + 1))) := by
              have hul := HRJ.out.len
              unfold cutR cutV
              rw [← pcs_app _ _ (by simp [hul])]; simp
            have hb3 := HB3.out
            have hown := HO.out
            rw [hcut] at hown
            have hpush := (HCR.out.below hb3).push (hown.low (by simp; omega)) hg8 hu8
            have hp4 : Pair w4 Wo.heap.size 40 (.int .i64 P.low) E := (hg8.block Wo.heap.size (by have := hb3.size; omega) (fun e => by have := (HCR.out.1.lt _ e.symm).1; omega)).trans (HPP.out.below hb3)
            have hb4 : Below Wo.heap.size Wo w4 := Below_of_grown (HBI.out.trans (hb3.mono HBI.out.size)) hg8 (by have := hb3.size; omega) (fun b hb => by have := (HCR.out.1.lt b hb).1; omega)
            have hz4 : Wo.heap.size + 1 ≤ w4.heap.size := by have := hg8.size; have := hb3.size; omega
            have HPU := Lib.hid hpush; have HP4 := Lib.hid hp4; have HB4 := Lib.hid hb4; have HZ4 := Lib.hid hz4
            clear hcut hb3 hown hpush hp4 hb4 hz4 hu8 hg8 hr8 HC2 HDA cj
            go_wp2_with fail
            go_roundw
            case rel => exact ⟨j + 1, _, by omega, by go_num, HPU.out, HP4.out, HB4.out, HZ4.out⟩
            case measure => simp [intOf]; omega
          · obtain rfl : j = n := by omega
            have hbw : Below w.heap.size w wr := HB.out.trans (hbi.mono HB.out.size)
            have hMR : MRead wr u7 ws (restM k m) := hcr.mread (by have := HNE.out; rw [this]; exact HS.out) (by have := HNE.out; omega) (fun i hi => HUS.out i (by have := HNE.out; omega)) hbw
            have q3 := Q3.out.below hbi
            have q2 := Q2.out.below hbi
            have o3 := O3.out.below hbi
            have hE := HE.out.below hbi
            have hSq : SqM j (restM k m) := SqM.rest (by have := HNE.out; rw [this]; exact HS.out) (by have := HNE.out; omega)
            obtain ⟨F1, F2, F3, F4, F5, F6, F7⟩ := HFIT.out k hlt
            rw [HP.out] at F1 F3
            have HF1 := Lib.hid F1; have HF2 := Lib.hid F2; have HF3 := Lib.hid F3; have HF4 := Lib.hid F4; have HF5 := Lib.hid F5; have HF6 := Lib.hid F6
            have HEX := Lib.hid (fun W (hb : Below wr.heap.size wr W) => HIH.out u7 ws (restM k m) W (hMR.below hb) hSq (by omega) F7)
            have HBW := Lib.hid (HB.out.trans (hbi.mono HB.out.size))
            have hzr : w.heap.size + 2 ≤ wr.heap.size := Nat.le_trans hz hbi.size
            have hFk : F k = pmul P (expandL j (restM k m)) := by rw [HFC.out, HP.out]
            have hnx : expTo F (k + 1) = padd (expTo F k) (F k) S := by rw [expTo, HSE.out]
            have HFK := Lib.hid hFk; have HNX := Lib.hid hnx
            clear hcr hMR hbi hbw F1 F2 F3 F4 F5 F6 F7 hFk hnx su
            obtain ⟨E1, E2, E3, rfl, -⟩ := se.cases
            have d0 := hpp.cell0; have d1 := hpp.cell1
            have PE := hpp; have OE := hE
            clear hpp hE
            go_wp2_with fail
            have dr : Below wr.heap.size wr wr.drew := (Below.refl _ _).drew
            replace q3 := q3.below dr; replace q2 := q2.below dr; replace o3 := o3.below dr; replace PE := PE.below dr; replace OE := OE.below dr
            have BR := dr
            refine wp_region_held_drew (S := fun W => W.cell? ⟨Wo.heap.size, 0, none⟩ = some (.int .i64 P.low) ∧ W.cell? ⟨Wo.heap.size, 1, none⟩ = some (.slice E1 E2 E3)) (by kernel_rfl) (⟨PE.cell0, PE.cell1⟩) (fun hHeld => ?_)
            refine' wpAnyH_take (i := 1) (oi := ?oiz14) (v := ?vz14) ?haz14 (by kernel_rfl) ?hfz14 ?hrz14 ?hQz14 (Or.inl ⟨?hwz14, ?hyz14⟩) (by assumption) ?restz14
            case haz14 => (simp only [List.getElem?_toArray, List.getElem?_cons_succ, List.getElem?_cons_zero]; exact rfl)
            case hQz14 => exact fun _ _ _ h => h
            case hfz14 => kernel_rfl
            case hrz14 => kernel_rfl
            case hwz14 => rfl
            case hyz14 => (intro w hSw; (try dsimp only at hSw); obtain ⟨e2, e3⟩ := hSw; go_simp; (try with_reducible rfl))
            try simp only [Act.put, List.setIfInBounds_toArray, List.set_cons_zero, List.set_cons_succ]
            refine' wpAnyH_take (i := 2) (oi := ?oiz15) (v := ?vz15) ?haz15 (by kernel_rfl) ?hfz15 ?hrz15 ?hQz15 (Or.inl ⟨?hwz15, ?hyz15⟩) (by assumption) ?restz15
            case haz15 => (simp only [List.getElem?_toArray, List.getElem?_cons_succ, List.getElem?_cons_zero]; exact rfl)
            case hQz15 => exact fun _ _ _ h => h
            case hfz15 => kernel_rfl
            case hrz15 => kernel_rfl
            case hwz15 => rfl
            case hyz15 => (intro w hSw; (try dsimp only at hSw); obtain ⟨e2, e3⟩ := hSw; go_simp; (try with_reducible rfl))
            try simp only [Act.put, List.setIfInBounds_toArray, List.set_cons_zero, List.set_cons_succ]
            refine' wpAnyH_take (i := 5) (oi := ?oiz16) (v := ?vz16) ?haz16 (by kernel_rfl) ?hfz16 ?hrz16 ?hQz16 (Or.inl ⟨?hwz16, ?hyz16⟩) (by assumption) ?restz16
            case haz16 => (simp only [List.getElem?_toArray, List.getElem?_cons_succ, List.getElem?_cons_zero]; exact rfl)
            case hQz16 => exact fun _ _ _ h => h
            case hfz16 => kernel_rfl
            case hrz16 => kernel_rfl
            case hwz16 => rfl
            case hyz16 => (intro w hSw; (try dsimp only at hSw); obtain ⟨e2, e3⟩ := hSw; go_simp; (try with_reducible rfl))
            try simp only [Act.put, List.setIfInBounds_toArray, List.set_cons_zero, List.set_cons_succ]
            refine wpAnyH_ready (rs := [0, 3]) (by kernel_rfl) (by simp) ?_
            refine' AllReadyH.cons (o := ?oiz29) ?haz29 (fun K hK => ?stepz29) (AllReadyH.cons (o := ?oiz30) ?haz30 (fun K hK => ?stepz30) AllReadyH.nil)
            case haz29 => (simp only [List.getElem?_toArray, List.getElem?_cons_zero]; exact rfl)
            case haz30 => (simp only [List.getElem?_toArray, List.getElem?_cons_succ, List.getElem?_cons_zero]; exact rfl)
            case stepz29 =>
              have aa0 := q3.cell0; have aa1 := q3.cell1
              go_simp
              clear aa0 aa1
              refine hK.out _ _ (⟨PE.cell0, PE.cell1⟩) (fun hHeld => ?_)
              clear hK K
              try simp only [Act.put, List.setIfInBounds_toArray, List.set_cons_zero, List.set_cons_succ]
              refine wpAnyH_ready (rs := [3]) (by kernel_rfl) (by simp) ?_
              refine' AllReadyH.cons (o := ?oiz20) ?haz20 (fun K hK => ?stepz20) AllReadyH.nil
              case haz20 => (simp only [List.getElem?_toArray, List.getElem?_cons_succ, List.getElem?_cons_zero]; exact rfl)
              go_simp
              go_at_call 79
              refine (HEX.out _ dr).mono ?_
              rintro e w5 ⟨v5, rfl, h5, hb⟩
              have s5 := h5.isSl
              have i5 := h5.ints
              replace q3 := q3.below hb
              replace q2 := q2.below hb
              replace o3 := o3.below hb
              replace PE := PE.below hb
              replace OE := OE.below hb
              replace BR := Below.chain BR hb
              clear h5 hb
              refine hK.out _ _ (⟨PE.cell0, PE.cell1⟩) (fun hHeld => ?_)
              clear hK K
              try simp only [Act.put, List.setIfInBounds_toArray, List.set_cons_zero, List.set_cons_succ]
              refine wpAnyH_ready (rs := [4]) (by kernel_rfl) (by simp) ?_
              refine' AllReadyH.cons (o := ?oiz19) ?haz19 (fun K hK => ?stepz19) AllReadyH.nil
              case haz19 => (simp only [List.getElem?_toArray, List.getElem?_cons_succ, List.getElem?_cons_zero]; exact rfl)
              go_simp
              go_at_call 70
              refine (ltimes_calls P (expandL j (restM k m)) (.slice E1 E2 E3) v5 _ OE i5 HF1.out.1 HF2.out.1 HF1.out.2 HF2.out.2 HF3.out).mono ?_
              rintro e w6 ⟨v6, rfl, h6, hb⟩
              rw [← HFK.out] at h6 ⊢
              have s6 := h6.isSl
              have i6 := h6.ints
              replace q3 := q3.below hb
              replace q2 := q2.below hb
              replace o3 := o3.below hb
              replace PE := PE.below hb
              replace OE := OE.below hb
              replace BR := Below.chain BR hb
              clear h6 hb i5
              refine hK.out _ _ (⟨PE.cell0, PE.cell1⟩) (fun hHeld => ?_)
              clear hK K
              try simp only [Act.put, List.setIfInBounds_toArray, List.set_cons_zero, List.set_cons_succ]
              refine wpAnyH_ready (rs := [6]) (by kernel_rfl) (by simp) ?_
              refine' AllReadyH.cons (o := ?oiz18) ?haz18 (fun K hK => ?stepz18) AllReadyH.nil
              case haz18 => (simp only [List.getElem?_toArray, List.getElem?_cons_succ, List.getElem?_cons_zero]; exact rfl)
              go_simp
              go_at_call 77
              refine (plus_calls (expTo F k) (F k) S (.slice g1 g2 g3) v6 _ o3.ints i6 HF4.out.1 HF5.out.1 HF4.out.2 HF5.out.2 (by have := HS1.out; omega) HF6.out).mono ?_
              rintro e w7 ⟨v7, rfl, h7, hb⟩
              rw [← HNX.out] at h7 ⊢
              have hsz7 : w.heap.size + 2 ≤ w6.heap.size := Nat.le_trans hzr BR.size
              have o7 := h7.low hsz7
              have s7 := o7.isSl
              replace q3 := q3.below hb
              replace q2 := q2.below hb
              replace o3 := o3.below hb
              replace PE := PE.below hb
              replace OE := OE.below hb
              replace BR := Below.chain BR hb
              obtain ⟨x1, x2, x3, rfl, -⟩ := s7.cases
              have f0 := q3.free0; have f1 := q3.free1; have b0 := q3.cell0; have b1 := q3.cell1
              clear h7 hb i6
              refine hK.out _ _ (⟨PE.cell0, PE.cell1⟩) (fun hHeld => ?_)
              clear hK K
              try simp only [Act.put, List.setIfInBounds_toArray, List.set_cons_zero, List.set_cons_succ]
              refine wpAnyH_ready (rs := [7]) (by kernel_rfl) (by simp) ?_
              refine' AllReadyH.cons (o := ?oiz17) ?haz17 (fun K hK => ?stepz17) AllReadyH.nil
              case haz17 => (simp only [List.getElem?_toArray, List.getElem?_cons_succ, List.getElem?_cons_zero]; exact rfl)
              go_simp
              have zE := (PE.other (C := w.heap.size + 1) (by omega) 0 (.int .i64 (expTo F (k + 1)).low)).other (C := w.heap.size + 1) (by omega) 1 (.slice x1 x2 x3)
              refine hK.out _ _ (⟨zE.cell0, zE.cell1⟩) (fun hHeld => ?_)
              clear hK K
              try simp only [Act.put, List.setIfInBounds_toArray, List.set_cons_zero, List.set_cons_succ]
              refine wpAnyH_done (by kernel_rfl) ?_ _
              go_wp2_with fail
              have QF := q3.set (.int .i64 (expTo F (k + 1)).low) (.slice x1 x2 x3)
              have hne7 : ∀ b, Go.Sl.row (.slice x1 x2 x3) = some b → w.heap.size + 1 ≠ b := fun b hb e => by have := (o7.lt b hb).1; omega
              have OF : OwnI ((w7.setCell ⟨w.heap.size + 1, 0, none⟩ (.int .i64 (expTo F (k + 1)).low)).setCell ⟨w.heap.size + 1, 1, none⟩ (.slice x1 x2 x3)) (w.heap.size + 2) (.slice x1 x2 x3) (expTo F (k + 1)).c := (o7.setOther (fun b hb => hne7 b hb) _).setOther (fun b hb => hne7 b hb) _
              have Q2F : Pair ((w7.setCell ⟨w.heap.size + 1, 0, none⟩ (.int .i64 (expTo F (k + 1)).low)).setCell ⟨w.heap.size + 1, 1, none⟩ (.slice x1 x2 x3)) w.heap.size 40 (.int .i64 0) (.slice none 0 0) := (q2.other (by omega) _ _).other (by omega) _ _
              have BF := (((HBW.out.trans (BR.mono HBW.out.size)).setCell (p := ⟨w.heap.size + 1, 0, none⟩) (by simp) (.int .i64 (expTo F (k + 1)).low)).setCell (p := ⟨w.heap.size + 1, 1, none⟩) (by simp) (.slice x1 x2 x3))
              have ZF : w.heap.size + 2 ≤ ((w7.setCell ⟨w.heap.size + 1, 0, none⟩ (.int .i64 (expTo F (k + 1)).low)).setCell ⟨w.heap.size + 1, 1, none⟩ (.slice x1 x2 x3)).heap.size := by have := Nat.le_trans hzr BR.size; simpa using this
              have hsg : (if (k + 1) % 2 = 0 then (1 : Int) else -1) = -S := HSN.out
              go_roundw
              case rel => exact ⟨k + 1, _, by omega, by go_num, by rw [hsg], QF, OF, Q2F, BF, ZF⟩
              case measure => simp [intOf]; omega
            case stepz30 =>
              go_simp
              go_at_call 79
              refine (HEX.out _ dr).mono ?_
              rintro e w5 ⟨v5, rfl, h5, hb⟩
              have s5 := h5.isSl
              have i5 := h5.ints
              replace q3 := q3.below hb
              replace q2 := q2.below hb
              replace o3 := o3.below hb
              replace PE := PE.below hb
              replace OE := OE.below hb
              replace BR := Below.chain BR hb
              clear h5 hb
              refine hK.out _ _ (⟨PE.cell0, PE.cell1⟩) (fun hHeld => ?_)
              clear hK K
              try simp only [Act.put, List.setIfInBounds_toArray, List.set_cons_zero, List.set_cons_succ]
              refine wpAnyH_ready (rs := [0, 4]) (by kernel_rfl) (by simp) ?_
              refine' AllReadyH.cons (o := ?oiz27) ?haz27 (fun K hK => ?stepz27) (AllReadyH.cons (o := ?oiz28) ?haz28 (fun K hK => ?stepz28) AllReadyH.nil)
              case haz27 => (simp only [List.getElem?_toArray, List.getElem?_cons_zero]; exact rfl)
              case haz28 => (simp only [List.getElem?_toArray, List.getElem?_cons_succ, List.getElem?_cons_zero]; exact rfl)
              case stepz27 =>
                have aa0 := q3.cell0; have aa1 := q3.cell1
                go_simp
                clear aa0 aa1
                refine hK.out _ _ (⟨PE.cell0, PE.cell1⟩) (fun hHeld => ?_)
                clear hK K
                try simp only [Act.put, List.setIfInBounds_toArray, List.set_cons_zero, List.set_cons_succ]
                refine wpAnyH_ready (rs := [4]) (by kernel_rfl) (by simp) ?_
                refine' AllReadyH.cons (o := ?oiz23) ?haz23 (fun K hK => ?stepz23) AllReadyH.nil
                case haz23 => (simp only [List.getElem?_toArray, List.getElem?_cons_succ, List.getElem?_cons_zero]; exact rfl)
                go_simp
                go_at_call 70
                refine (ltimes_calls P (expandL j (restM k m)) (.slice E1 E2 E3) v5 _ OE i5 HF1.out.1 HF2.out.1 HF1.out.2 HF2.out.2 HF3.out).mono ?_
                rintro e w6 ⟨v6, rfl, h6, hb⟩
                rw [← HFK.out] at h6 ⊢
                have s6 := h6.isSl
                have i6 := h6.ints
                replace q3 := q3.below hb
                replace q2 := q2.below hb
                replace o3 := o3.below hb
                replace PE := PE.below hb
                replace OE := OE.below hb
                replace BR := Below.chain BR hb
                clear h6 hb i5
                refine hK.out _ _ (⟨PE.cell0, PE.cell1⟩) (fun hHeld => ?_)
                clear hK K
                try simp only [Act.put, List.setIfInBounds_toArray, List.set_cons_zero, List.set_cons_succ]
                refine wpAnyH_ready (rs := [6]) (by kernel_rfl) (by simp) ?_
                refine' AllReadyH.cons (o := ?oiz22) ?haz22 (fun K hK => ?stepz22) AllReadyH.nil
                case haz22 => (simp only [List.getElem?_toArray, List.getElem?_cons_succ, List.getElem?_cons_zero]; exact rfl)
                go_simp
                go_at_call 77
                refine (plus_calls (expTo F k) (F k) S (.slice g1 g2 g3) v6 _ o3.ints i6 HF4.out.1 HF5.out.1 HF4.out.2 HF5.out.2 (by have := HS1.out; omega) HF6.out).mono ?_
                rintro e w7 ⟨v7, rfl, h7, hb⟩
                rw [← HNX.out] at h7 ⊢
                have hsz7 : w.heap.size + 2 ≤ w6.heap.size := Nat.le_trans hzr BR.size
                have o7 := h7.low hsz7
                have s7 := o7.isSl
                replace q3 := q3.below hb
                replace q2 := q2.below hb
                replace o3 := o3.below hb
                replace PE := PE.below hb
                replace OE := OE.below hb
                replace BR := Below.chain BR hb
                obtain ⟨x1, x2, x3, rfl, -⟩ := s7.cases
                have f0 := q3.free0; have f1 := q3.free1; have b0 := q3.cell0; have b1 := q3.cell1
                clear h7 hb i6
                refine hK.out _ _ (⟨PE.cell0, PE.cell1⟩) (fun hHeld => ?_)
                clear hK K
                try simp only [Act.put, List.setIfInBounds_toArray, List.set_cons_zero, List.set_cons_succ]
                refine wpAnyH_ready (rs := [7]) (by kernel_rfl) (by simp) ?_
                refine' AllReadyH.cons (o := ?oiz21) ?haz21 (fun K hK => ?stepz21) AllReadyH.nil
                case haz21 => (simp only [List.getElem?_toArray, List.getElem?_cons_succ, List.getElem?_cons_zero]; exact rfl)
                go_simp
                have zE := (PE.other (C := w.heap.size + 1) (by omega) 0 (.int .i64 (expTo F (k + 1)).low)).other (C := w.heap.size + 1) (by omega) 1 (.slice x1 x2 x3)
                refine hK.out _ _ (⟨zE.cell0, zE.cell1⟩) (fun hHeld => ?_)
                clear hK K
                try simp only [Act.put, List.setIfInBounds_toArray, List.set_cons_zero, List.set_cons_succ]
                refine wpAnyH_done (by kernel_rfl) ?_ _
                go_wp2_with fail
                have QF := q3.set (.int .i64 (expTo F (k + 1)).low) (.slice x1 x2 x3)
                have hne7 : ∀ b, Go.Sl.row (.slice x1 x2 x3) = some b → w.heap.size + 1 ≠ b := fun b hb e => by have := (o7.lt b hb).1; omega
                have OF : OwnI ((w7.setCell ⟨w.heap.size + 1, 0, none⟩ (.int .i64 (expTo F (k + 1)).low)).setCell ⟨w.heap.size + 1, 1, none⟩ (.slice x1 x2 x3)) (w.heap.size + 2) (.slice x1 x2 x3) (expTo F (k + 1)).c := (o7.setOther (fun b hb => hne7 b hb) _).setOther (fun b hb => hne7 b hb) _
                have Q2F : Pair ((w7.setCell ⟨w.heap.size + 1, 0, none⟩ (.int .i64 (expTo F (k + 1)).low)).setCell ⟨w.heap.size + 1, 1, none⟩ (.slice x1 x2 x3)) w.heap.size 40 (.int .i64 0) (.slice none 0 0) := (q2.other (by omega) _ _).other (by omega) _ _
                have BF := (((HBW.out.trans (BR.mono HBW.out.size)).setCell (p := ⟨w.heap.size + 1, 0, none⟩) (by simp) (.int .i64 (expTo F (k + 1)).low)).setCell (p := ⟨w.heap.size + 1, 1, none⟩) (by simp) (.slice x1 x2 x3))
                have ZF : w.heap.size + 2 ≤ ((w7.setCell ⟨w.heap.size + 1, 0, none⟩ (.int .i64 (expTo F (k + 1)).low)).setCell ⟨w.heap.size + 1, 1, none⟩ (.slice x1 x2 x3)).heap.size := by have := Nat.le_trans hzr BR.size; simpa using this
                have hsg : (if (k + 1) % 2 = 0 then (1 : Int) else -1) = -S := HSN.out
                go_roundw
                case rel => exact ⟨k + 1, _, by omega, by go_num, by rw [hsg], QF, OF, Q2F, BF, ZF⟩
                case measure => simp [intOf]; omega
              case stepz28 =>
                go_simp
                go_at_call 70
                refine (ltimes_calls P (expandL j (restM k m)) (.slice E1 E2 E3) v5 _ OE i5 HF1.out.1 HF2.out.1 HF1.out.2 HF2.out.2 HF3.out).mono ?_
                rintro e w6 ⟨v6, rfl, h6, hb⟩
                rw [← HFK.out] at h6 ⊢
                have s6 := h6.isSl
                have i6 := h6.ints
                replace q3 := q3.below hb
                replace q2 := q2.below hb
                replace o3 := o3.below hb
                replace PE := PE.below hb
                replace OE := OE.below hb
                replace BR := Below.chain BR hb
                clear h6 hb i5
                refine hK.out _ _ (⟨PE.cell0, PE.cell1⟩) (fun hHeld => ?_)
                clear hK K
                try simp only [Act.put, List.setIfInBounds_toArray, List.set_cons_zero, List.set_cons_succ]
                refine wpAnyH_ready (rs := [0]) (by kernel_rfl) (by simp) ?_
                refine' AllReadyH.cons (o := ?oiz26) ?haz26 (fun K hK => ?stepz26) AllReadyH.nil
                case haz26 => (simp only [List.getElem?_toArray, List.getElem?_cons_zero]; exact rfl)
                have aa0 := q3.cell0; have aa1 := q3.cell1
                go_simp
                clear aa0 aa1
                refine hK.out _ _ (⟨PE.cell0, PE.cell1⟩) (fun hHeld => ?_)
                clear hK K
                try simp only [Act.put, List.setIfInBounds_toArray, List.set_cons_zero, List.set_cons_succ]
                refine wpAnyH_ready (rs := [6]) (by kernel_rfl) (by simp) ?_
                refine' AllReadyH.cons (o := ?oiz25) ?haz25 (fun K hK => ?stepz25) AllReadyH.nil
                case haz25 => (simp only [List.getElem?_toArray, List.getElem?_cons_succ, List.getElem?_cons_zero]; exact rfl)
                go_simp
                go_at_call 77
                refine (plus_calls (expTo F k) (F k) S (.slice g1 g2 g3) v6 _ o3.ints i6 HF4.out.1 HF5.out.1 HF4.out.2 HF5.out.2 (by have := HS1.out; omega) HF6.out).mono ?_
                rintro e w7 ⟨v7, rfl, h7, hb⟩
                rw [← HNX.out] at h7 ⊢
                have hsz7 : w.heap.size + 2 ≤ w6.heap.size := Nat.le_trans hzr BR.size
                have o7 := h7.low hsz7
                have s7 := o7.isSl
                replace q3 := q3.below hb
                replace q2 := q2.below hb
                replace o3 := o3.below hb
                replace PE := PE.below hb
                replace OE := OE.below hb
                replace BR := Below.chain BR hb
                obtain ⟨x1, x2, x3, rfl, -⟩ := s7.cases
                have f0 := q3.free0; have f1 := q3.free1; have b0 := q3.cell0; have b1 := q3.cell1
                clear h7 hb i6
                refine hK.out _ _ (⟨PE.cell0, PE.cell1⟩) (fun hHeld => ?_)
                clear hK K
                try simp only [Act.put, List.setIfInBounds_toArray, List.set_cons_zero, List.set_cons_succ]
                refine wpAnyH_ready (rs := [7]) (by kernel_rfl) (by simp) ?_
                refine' AllReadyH.cons (o := ?oiz24) ?haz24 (fun K hK => ?stepz24) AllReadyH.nil
                case haz24 => (simp only [List.getElem?_toArray, List.getElem?_cons_succ, List.getElem?_cons_zero]; exact rfl)
                go_simp
                have zE := (PE.other (C := w.heap.size + 1) (by omega) 0 (.int .i64 (expTo F (k + 1)).low)).other (C := w.heap.size + 1) (by omega) 1 (.slice x1 x2 x3)
                refine hK.out _ _ (⟨zE.cell0, zE.cell1⟩) (fun hHeld => ?_)
                clear hK K
                try simp only [Act.put, List.setIfInBounds_toArray, List.set_cons_zero, List.set_cons_succ]
                refine wpAnyH_done (by kernel_rfl) ?_ _
                go_wp2_with fail
                have QF := q3.set (.int .i64 (expTo F (k + 1)).low) (.slice x1 x2 x3)
                have hne7 : ∀ b, Go.Sl.row (.slice x1 x2 x3) = some b → w.heap.size + 1 ≠ b := fun b hb e => by have := (o7.lt b hb).1; omega
                have OF : OwnI ((w7.setCell ⟨w.heap.size + 1, 0, none⟩ (.int .i64 (expTo F (k + 1)).low)).setCell ⟨w.heap.size + 1, 1, none⟩ (.slice x1 x2 x3)) (w.heap.size + 2) (.slice x1 x2 x3) (expTo F (k + 1)).c := (o7.setOther (fun b hb => hne7 b hb) _).setOther (fun b hb => hne7 b hb) _
                have Q2F : Pair ((w7.setCell ⟨w.heap.size + 1, 0, none⟩ (.int .i64 (expTo F (k + 1)).low)).setCell ⟨w.heap.size + 1, 1, none⟩ (.slice x1 x2 x3)) w.heap.size 40 (.int .i64 0) (.slice none 0 0) := (q2.other (by omega) _ _).other (by omega) _ _
                have BF := (((HBW.out.trans (BR.mono HBW.out.size)).setCell (p := ⟨w.heap.size + 1, 0, none⟩) (by simp) (.int .i64 (expTo F (k + 1)).low)).setCell (p := ⟨w.heap.size + 1, 1, none⟩) (by simp) (.slice x1 x2 x3))
                have ZF : w.heap.size + 2 ≤ ((w7.setCell ⟨w.heap.size + 1, 0, none⟩ (.int .i64 (expTo F (k + 1)).low)).setCell ⟨w.heap.size + 1, 1, none⟩ (.slice x1 x2 x3)).heap.size := by have := Nat.le_trans hzr BR.size; simpa using this
                have hsg : (if (k + 1) % 2 = 0 then (1 : Int) else -1) = -S := HSN.out
                go_roundw
                case rel => exact ⟨k + 1, _, by omega, by go_num, by rw [hsg], QF, OF, Q2F, BF, ZF⟩
                case measure => simp [intOf]; omega
      · obtain rfl : k = N := by omega
        have e0 := q3.cell0; have e1 := q3.cell1; have d0 := q2.cell0; have d1 := q2.cell1; have f0 := q2.free0; have f1 := q2.free1
        have hlw := q2.lt
        obtain ⟨S, hS⟩ : ∃ S : Int, (if k % 2 = 0 then 1 else -1) = S := ⟨_, rfl⟩
        rw [hS]
        clear hS
        have hne : ∀ b, Go.Sl.row (.slice g1 g2 g3) = some b → w.heap.size ≠ b := fun b hb e => by have := (o3.lt b hb).1; omega
        have OF : OwnI ((Wo.setCell ⟨w.heap.size, 0, none⟩ (.int .i64 (expTo F k).low)).setCell ⟨w.heap.size, 1, none⟩ (.slice g1 g2 g3)) w.heap.size (.slice g1 g2 g3) (expTo F k).c := ((o3.low (B' := w.heap.size) (by omega)).setOther (fun b hb => hne b hb) _).setOther (fun b hb => hne b hb) _
        have BF := (hb.setCell (p := ⟨w.heap.size, 0, none⟩) (by simp) (.int .i64 (expTo F k).low)).setCell (p := ⟨w.heap.size, 1, none⟩) (by simp) (.slice g1 g2 g3)
        have HOF := Lib.hid OF; have HBF := Lib.hid BF
        clear q3 o3 q2 hb OF BF hne
        go_wp2_with fail
        refine bodyPost_ret (v := .agg #[.int .i64 (expTo F k).low, .slice g1 g2 g3]) (by simp [results, Try.results79, go_sem, d0, d1]) rfl ⟨_, rfl, HOF.out, HBF.out⟩

end Go.Proofs.Ytplekfgadbjgdaa


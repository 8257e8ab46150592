/- temperleylieb: planar, Check, walked. -/
import Derived.Test.YtplekfgadbjgdaaQMatchingCounts0
import Derived.Test.YtplekfgadbjgdaaQMatchingCounts1
import Derived.Test.YtplekfgadbjgdaaQMatchingCounts10
import Derived.Test.YtplekfgadbjgdaaQMatchingCounts11
import Derived.Test.YtplekfgadbjgdaaQMatchingCounts12
import Derived.Test.YtplekfgadbjgdaaQMatchingCounts13
import Derived.Test.YtplekfgadbjgdaaQMatchingCounts14
import Derived.Test.YtplekfgadbjgdaaQMatchingCounts15
import Derived.Test.YtplekfgadbjgdaaQMatchingCounts16
import Derived.Test.YtplekfgadbjgdaaQMatchingCounts17
import Derived.Test.YtplekfgadbjgdaaQMatchingCounts18
import Derived.Test.YtplekfgadbjgdaaQMatchingCounts19
import Derived.Test.YtplekfgadbjgdaaQMatchingCounts20
import Derived.Test.YtplekfgadbjgdaaQMatchingCounts21
import Derived.Test.YtplekfgadbjgdaaQMatchingCounts22
import Derived.Test.YtplekfgadbjgdaaQMatchingCounts23
import Derived.Test.YtplekfgadbjgdaaQMatchingCounts24
import Derived.Test.YtplekfgadbjgdaaQMatchingCounts25
import Derived.Test.YtplekfgadbjgdaaQMatchingCounts26
import Derived.Test.YtplekfgadbjgdaaQMatchingCounts27
import Derived.Deep.RegionLaw
import Derived.RangeFuncNested
import Derived.RangeFuncBound
import Derived.RangeFuncCalls
import Derived.RangeFuncLeaves
import Derived.RangeFuncBox
import Derived.Shelf.Abstract
import Derived.Shelf.RegionOpen
import Derived.OwnWalkIn
import Derived.TacticsInMore
import Derived.LoopNIn
import Derived.LoopIn
import Derived.Maps.AppendAt
namespace Go.Proofs.Ytplekfgadbjgdaa
open Go.RowKit Go.Sl

theorem own_cutHead {W : World} {B : Nat} {e : TypeId} {s : Nat} {v : Value} {cs : List Value} (h : Go.Sl.Own W B e s v cs) {k : Nat} (hk : k ≤ vlen v) : Go.Sl.Own W B e s (vcut v 0 k (vcap v) s) (cs.take (k * s)) := by
  have hl := h.2.1
  have hle := h.1.le
  have hks : k * s ≤ vlen v * s := Nat.mul_le_mul_right _ hk
  refine ⟨isSl_cut h.1 (by omega) (by omega) (Nat.le_refl _), by rw [vlen_cut, List.length_take, hl, Nat.min_eq_left hks, Nat.sub_zero], fun h0 => ?_⟩
  rw [vcap_cut] at h0
  obtain ⟨hB, ho, cur, hh, hs, hc⟩ := h.2.2 (by omega)
  have h1 := vat_cut h.1 (l := 0) (h := k) (m := vcap v) (s := s) 0 (by omega) (Nat.le_refl _)
  have eb : vblk (vcut v 0 k (vcap v) s) = vblk v := by have := congrArg Addr.block h1; rwa [vat_block, vat_block] at this
  have eo : voff (vcut v 0 k (vcap v) s) = voff v := by
    have := congrArg Addr.off h1
    simpa [vat] using this
  refine ⟨by rw [eb]; exact hB, by rw [eo]; exact ho, cur, by rw [eb]; exact hh, by rw [vcap_cut]; simpa using hs, ?_⟩
  rw [List.length_take, hl, ← hc, List.take_take, hl]

theorem ownI_cutHead {W : World} {B : Nat} {v : Value} {xs : List Int} (h : OwnI W B v xs) {k : Nat} (hk : k ≤ xs.length) : OwnI W B (vcut v 0 k (vcap v) 1) (xs.take k) := by
  have := own_cutHead h (k := k) (by rw [h.len]; exact hk)
  unfold OwnI
  rw [List.map_take]
  simpa using this

theorem iz_take (a : List Nat) (k : Nat) : iz (a.take k) = (iz a).take k := by simp [iz, List.map_take]
/-- One step of planar: what is open. -/
def openS (d : List Nat) (O : List Nat) (p : Nat) : List Nat := if 1 ≤ O.length ∧ O.getD (O.length - 1) 0 = d.getD p 0 then O.take (O.length - 1) else O ++ [p]
def opens (n : Nat) (d : List Nat) (k : Nat) : List Nat := ((aroundL n).take k).foldl (openS d) []
def planarL (n : Nat) (d : List Nat) : Bool := (opens n d (2 * n)).length == 0
theorem opens_succ {n : Nat} (d : List Nat) {k : Nat} (h : k < 2 * n) : opens n d (k + 1) = openS d (opens n d k) ((aroundL n).getD k 0) := by
  have hk : k < (aroundL n).length := by rw [aroundL_length]; exact h
  unfold opens
  rw [List.take_succ_eq_append_getElem hk, List.foldl_append, List.foldl_cons, List.foldl_nil, List.getD, List.getElem?_eq_getElem hk]; rfl
theorem openS_length (d O : List Nat) (p : Nat) : (openS d O p).length ≤ O.length + 1 := by unfold openS; split <;> simp; omega
theorem opens_length (n : Nat) (d : List Nat) (k : Nat) : k ≤ 2 * n → (opens n d k).length ≤ k := by
  induction k with
  | zero => intro _; simp [opens]
  | succ k ih => intro h; rw [opens_succ d (by omega)]; have := openS_length d (opens n d k) ((aroundL n).getD k 0); have := ih (by omega); omega

set_option maxRecDepth 100000 in
set_option maxHeartbeats 4000000 in
theorem planar_calls (n : Nat) (D : List Nat) (dv : Value) (w : World) (hd : Ints w dv (iz D)) (hD : D.length = 2 * n) (hDb : ∀ i, i < 2 * n → D.getD i 0 < 2 * n) (h1 : 1 ≤ n) (h6 : n ≤ 6) :
    Calls Try.prog 61 #[.int .i64 n, dv] w fun e w' => e = .returned (.bool (planarL n D)) ∧ Below w.heap.size w w' := by
  have sd := hd.isSl
  have ld := hd.len
  rw [iz_length, hD] at ld
  obtain ⟨N2, hN2⟩ : ∃ N2, 2 * n = N2 := ⟨_, rfl⟩
  rw [hN2] at ld
  have hN2b : N2 ≤ 12 := by omega
  have HN2 := Lib.hid hN2; have HD := Lib.hid hd; have HDL := Lib.hid hD; have HDB := Lib.hid hDb
  clear hN2 hd hD hDb
  go_enter Try.func61, Try.ntmps61
  go_wp2_with fail
  refine (around_calls n w h1 h6).mono ?_
  rintro e W ⟨u, rfl, hu, hb⟩
  have su := hu.isSl
  have lu := hu.len
  rw [iz_length, aroundL_length, HN2.out] at lu
  have HU := Lib.hid hu; have HB := Lib.hid hb
  have hws := hb.size
  clear hu hb
  go_wp2_with fail
  go_loopw [5, 12] (fun o i wr => ∃ k : Nat, k ≤ N2 ∧ i = .int .i64 k ∧ OwnI wr W.heap.size o (iz (opens n D k)) ∧ Below W.heap.size W wr) (fun _ i _ => N2 - (intOf i).toNat)
  case atStart => exact ⟨0, Nat.zero_le _, rfl, by simpa [opens, iz] using ownI_nil _ _, Below.refl _ _⟩
  case round =>
    rename World => V
    obtain ⟨k, hk, rfl, ho, hbr⟩ := hrel
    have hbs := hbr.size
    have hlb := opens_length n D k (by rw [HN2.out]; exact hk)
    have so := ho.isSl
    have lo := ho.len
    rw [iz_length] at lo
    by_cases hlt : k < N2
    · have hstep := opens_succ (n := n) D (k := k) (by rw [HN2.out]; exact hlt)
      have hpl := aroundL_lt (n := n) (j := k) (by rw [HN2.out]; exact hlt)
      have cu := (HU.out.ints.below hbr).cell (k := k) (by rw [iz_length, aroundL_length, HN2.out]; exact hlt)
      rw [getD_iz (by rw [aroundL_length, HN2.out]; exact hlt)] at cu
      obtain ⟨p, hp⟩ : ∃ p, (aroundL n).getD k 0 = p := ⟨_, rfl⟩
      rw [hp] at cu hpl hstep
      have cd := (HD.out.below (HB.out.trans (hbr.mono hws))).cell (k := p) (by rw [iz_length, HDL.out]; exact hpl)
      rw [getD_iz (by rw [HDL.out]; exact hpl)] at cd
      obtain ⟨q, hq⟩ : ∃ q, D.getD p 0 = q := ⟨_, rfl⟩
      have hqb := HDB.out p hpl
      rw [hq] at cd hqb
      rw [HN2.out] at hpl hqb
      obtain ⟨O, hO⟩ : ∃ O, opens n D k = O := ⟨_, rfl⟩
      rw [hO] at ho hlb lo hstep
      unfold openS at hstep
      rw [hq] at hstep
      obtain ⟨m, hm⟩ : ∃ m, O.length = m := ⟨_, rfl⟩
      rw [hm] at lo hlb hstep
      have hll : (iz O).length ≤ 1000 := by rw [iz_length, hm]; omega
      have HM := Lib.hid hm; have HST := Lib.hid hstep; have HBR := Lib.hid hbr
      clear hp hq hO hm hstep hbr
      rcases Nat.eq_zero_or_pos m with h0 | h0
      · subst h0
        have hst := HST.out
        rw [if_neg (by omega)] at hst
        have HX := Lib.hid hst
        clear hst HST
        have hod := ho.below (Below.refl _ _).drew
        have hbd := HBR.out.drew
        have hbds : W.heap.size ≤ V.drew.heap.size := hbs
        have HBD := Lib.hid hbd
        clear ho hbd
        go_wp2_with fail
        refine wp_region_held_drew (S := fun _ => True) (by kernel_rfl) (trivial) (fun hHeld => ?_)
        refine' wpAnyH_take (i := 0) (oi := ?oiz1) (v := ?vz1) ?haz1 (by kernel_rfl) ?hfz1 ?hrz1 ?hQz1 (Or.inl ⟨?hwz1, ?hyz1⟩) (by assumption) ?restz1
        case haz1 => (simp only [List.getElem?_toArray, List.getElem?_cons_zero]; exact rfl)
        case hQz1 => exact fun _ _ _ h => h
        case hfz1 => kernel_rfl
        case hrz1 => kernel_rfl
        case hwz1 => rfl
        case hyz1 => (intro w hSw; (try dsimp only at hSw); have _ := hSw; go_simp; (try with_reducible rfl))
        try simp only [Act.put, List.setIfInBounds_toArray, List.set_cons_zero, List.set_cons_succ]
        refine' wpAnyH_take (i := 1) (oi := ?oiz2) (v := ?vz2) ?haz2 (by kernel_rfl) ?hfz2 ?hrz2 ?hQz2 (Or.inl ⟨?hwz2, ?hyz2⟩) (by assumption) ?restz2
        case haz2 => (simp only [List.getElem?_toArray, List.getElem?_cons_succ, List.getElem?_cons_zero]; exact rfl)
        case hQz2 => exact fun _ _ _ h => h
        case hfz2 => kernel_rfl
        case hrz2 => kernel_rfl
        case hwz2 => rfl
        case hyz2 => (intro w hSw; (try dsimp only at hSw); have _ := hSw; go_simp; (try with_reducible rfl))
        try simp only [Act.put, List.setIfInBounds_toArray, List.set_cons_zero, List.set_cons_succ]
        refine' wpAnyH_take (i := 2) (oi := ?oiz3) (v := ?vz3) ?haz3 (by kernel_rfl) ?hfz3 ?hrz3 ?hQz3 (Or.inl ⟨?hwz3, ?hyz3⟩) (by assumption) ?restz3
        case haz3 => (simp only [List.getElem?_toArray, List.getElem?_cons_succ, List.getElem?_cons_zero]; exact rfl)
        case hQz3 => exact fun _ _ _ h => h
        case hfz3 => kernel_rfl
        case hrz3 => kernel_rfl
        case hwz3 => rfl
        case hyz3 => (intro w hSw; (try dsimp only at hSw); have _ := hSw; go_simp; (try with_reducible rfl))
        try simp only [Act.put, List.setIfInBounds_toArray, List.set_cons_zero, List.set_cons_succ]
        refine' wpAnyH_take (i := 3) (oi := ?oiz4) (v := undef) ?haz4 (by kernel_rfl) ?hfz4 ?hrz4 ?hQz4 (Or.inr ⟨?hwz4, rfl⟩) (by assumption) ?restz4
        case haz4 => (simp only [List.getElem?_toArray, List.getElem?_cons_succ, List.getElem?_cons_zero]; exact rfl)
        case hQz4 => exact fun _ _ _ h => h
        case hfz4 => kernel_rfl
        case hrz4 => kernel_rfl
        case hwz4 => rfl
        try simp only [Act.put, List.setIfInBounds_toArray, List.set_cons_zero, List.set_cons_succ]
        refine' wpAnyH_take (i := 4) (oi := ?oiz5) (v := undef) ?haz5 (by kernel_rfl) ?hfz5 ?hrz5 ?hQz5 (Or.inr ⟨?hwz5, rfl⟩) (by assumption) ?restz5
        case haz5 => (simp only [List.getElem?_toArray, List.getElem?_cons_succ, List.getElem?_cons_zero]; exact rfl)
        case hQz5 => exact fun _ _ _ h => h
        case hfz5 => kernel_rfl
        case hrz5 => kernel_rfl
        case hwz5 => rfl
        try simp only [Act.put, List.setIfInBounds_toArray, List.set_cons_zero, List.set_cons_succ]
        refine' wpAnyH_take (i := 5) (oi := ?oiz6) (v := undef) ?haz6 (by kernel_rfl) ?hfz6 ?hrz6 ?hQz6 (Or.inr ⟨?hwz6, rfl⟩) (by assumption) ?restz6
        case haz6 => (simp only [List.getElem?_toArray, List.getElem?_cons_succ, List.getElem?_cons_zero]; exact rfl)
        case hQz6 => exact fun _ _ _ h => h
        case hfz6 => kernel_rfl
        case hrz6 => kernel_rfl
        case hwz6 => rfl
        try simp only [Act.put, List.setIfInBounds_toArray, List.set_cons_zero, List.set_cons_succ]
        refine' wpAnyH_take (i := 6) (oi := ?oiz7) (v := undef) ?haz7 (by kernel_rfl) ?hfz7 ?hrz7 ?hQz7 (Or.inr ⟨?hwz7, rfl⟩) (by assumption) ?restz7
        case haz7 => (simp only [List.getElem?_toArray, List.getElem?_cons_succ, List.getElem?_cons_zero]; exact rfl)
        case hQz7 => exact fun _ _ _ h => h
        case hfz7 => kernel_rfl
        case hrz7 => kernel_rfl
        case hwz7 => rfl
        try simp only [Act.put, List.setIfInBounds_toArray, List.set_cons_zero, List.set_cons_succ]
        refine' wpAnyH_take (i := 7) (oi := ?oiz8) (v := undef) ?haz8 (by kernel_rfl) ?hfz8 ?hrz8 ?hQz8 (Or.inr ⟨?hwz8, rfl⟩) (by assumption) ?restz8
        case haz8 => (simp only [List.getElem?_toArray, List.getElem?_cons_succ, List.getElem?_cons_zero]; exact rfl)
        case hQz8 => exact fun _ _ _ h => h
        case hfz8 => kernel_rfl
        case hrz8 => kernel_rfl
        case hwz8 => rfl
        try simp only [Act.put, List.setIfInBounds_toArray, List.set_cons_zero, List.set_cons_succ]
        refine' wpAnyH_take (i := 8) (oi := ?oiz9) (v := undef) ?haz9 (by kernel_rfl) ?hfz9 ?hrz9 ?hQz9 (Or.inr ⟨?hwz9, rfl⟩) (by assumption) ?restz9
        case haz9 => (simp only [List.getElem?_toArray, List.getElem?_cons_succ, List.getElem?_cons_zero]; exact rfl)
        case hQz9 => exact fun _ _ _ h => h
        case hfz9 => kernel_rfl
        case hrz9 => kernel_rfl
        case hwz9 => rfl
        try simp only [Act.put, List.setIfInBounds_toArray, List.set_cons_zero, List.set_cons_succ]
        refine' wpAnyH_take (i := 9) (oi := ?oiz10) (v := undef) ?haz10 (by kernel_rfl) ?hfz10 ?hrz10 ?hQz10 (Or.inr ⟨?hwz10, rfl⟩) (by assumption) ?restz10
        case haz10 => (simp only [List.getElem?_toArray, List.getElem?_cons_succ, List.getElem?_cons_zero]; exact rfl)
        case hQz10 => exact fun _ _ _ h => h
        case hfz10 => kernel_rfl
        case hrz10 => kernel_rfl
        case hwz10 => rfl
        try simp only [Act.put, List.setIfInBounds_toArray, List.set_cons_zero, List.set_cons_succ]
        refine' wpAnyH_take (i := 10) (oi := ?oiz11) (v := undef) ?haz11 (by kernel_rfl) ?hfz11 ?hrz11 ?hQz11 (Or.inr ⟨?hwz11, rfl⟩) (by assumption) ?restz11
        case haz11 => (simp only [List.getElem?_toArray, List.getElem?_cons_succ, List.getElem?_cons_zero]; exact rfl)
        case hQz11 => exact fun _ _ _ h => h
        case hfz11 => kernel_rfl
        case hrz11 => kernel_rfl
        case hwz11 => rfl
        try simp only [Act.put, List.setIfInBounds_toArray, List.set_cons_zero, List.set_cons_succ]
        refine' wpAnyH_take (i := 11) (oi := ?oiz12) (v := undef) ?haz12 (by kernel_rfl) ?hfz12 ?hrz12 ?hQz12 (Or.inr ⟨?hwz12, rfl⟩) (by assumption) ?restz12
        case haz12 => (simp only [List.getElem?_toArray, List.getElem?_cons_succ, List.getElem?_cons_zero]; exact rfl)
        case hQz12 => exact fun _ _ _ h => h
        case hfz12 => kernel_rfl
        case hrz12 => kernel_rfl
        case hwz12 => rfl
        try simp only [Act.put, List.setIfInBounds_toArray, List.set_cons_zero, List.set_cons_succ]
        refine' wpAnyH_take (i := 12) (oi := ?oiz13) (v := ?vz13) ?haz13 (by kernel_rfl) ?hfz13 ?hrz13 ?hQz13 (Or.inl ⟨?hwz13, ?hyz13⟩) (by assumption) ?restz13
        case haz13 => (simp only [List.getElem?_toArray, List.getElem?_cons_succ, List.getElem?_cons_zero]; exact rfl)
        case hQz13 => exact fun _ _ _ h => h
        case hfz13 => kernel_rfl
        case hrz13 => kernel_rfl
        case hwz13 => rfl
        case hyz13 => (intro w hSw; (try dsimp only at hSw); have _ := hSw; go_simp; (try with_reducible rfl))
        try simp only [Act.put, List.setIfInBounds_toArray, List.set_cons_zero, List.set_cons_succ]
        refine wpAnyH_done (by kernel_rfl) ?_ _
        go_wp2_with (at_builtin; refine wpList_push rfl _ _ rfl rfl rfl hod hbds (by omega) ?_; intro out2 w2 ho2 hg2 hr2)
        have hb2 : Below W.heap.size W w2 := Below_of_grown HBD.out hg2 hbds (fun b hb => (hod.lt b hb).1)
        go_roundw
        case rel => exact ⟨k + 1, by omega, by go_num, by rw [HX.out, iz_append]; exact ho2, hb2⟩
        case measure => simp [intOf]; omega
      · obtain ⟨l, hl⟩ : ∃ l, m - 1 = l := ⟨_, rfl⟩
        have hlm : l < m := by omega
        have hli : (m : Int) - 1 = (l : Int) := by omega
        have hlw : IntKind.i64.wrap ((m : Int) - 1) = (l : Int) := by rw [hli]; exact IntWalk.i64_in _ ⟨by omega, by omega⟩
        have cl := ho.ints.cell (k := l) (by rw [iz_length, HM.out]; omega)
        rw [getD_iz (by rw [HM.out]; omega)] at cl
        have hst := HST.out
        rw [hl] at hst
        clear hl
        obtain ⟨t, ht⟩ : ∃ t, O.getD l 0 = t := ⟨_, rfl⟩
        rw [ht] at cl hst
        by_cases htq : t = q
        · subst htq
          rw [if_pos ⟨by omega, rfl⟩] at hst
          have hcut := ownI_cutHead ho (k := l) (by rw [iz_length, HM.out]; omega)
          have hle := so.le
          have HX := Lib.hid hst; have HC := Lib.hid hcut; have HT := Lib.hid ht
          have hbd := HBR.out.drew
          have hcd := hcut.below (Below.refl _ _).drew
          have HBD := Lib.hid hbd; have HCD := Lib.hid hcd
          clear hst hcut ho ht HST hbd hcd
          go_wp2_with fail
          refine wp_region_held_drew (S := fun X => X.cell? (vat u5 l) = some (.int .i64 t) ∧ X.cell? (vat dv p) = some (.int .i64 t)) (by kernel_rfl) (⟨cl, cd⟩) (fun hHeld => ?_)
          refine' wpAnyH_take (i := 0) (oi := ?oiz27) (v := ?vz27) ?haz27 (by kernel_rfl) ?hfz27 ?hrz27 ?hQz27 (Or.inl ⟨?hwz27, ?hyz27⟩) (by assumption) ?restz27
          case haz27 => (simp only [List.getElem?_toArray, List.getElem?_cons_zero]; exact rfl)
          case hQz27 => exact fun _ _ _ h => h
          case hfz27 => kernel_rfl
          case hrz27 => kernel_rfl
          case hwz27 => rfl
          case hyz27 => (intro w hSw; (try dsimp only at hSw); obtain ⟨e0, e1⟩ := hSw; go_simp; (try with_reducible rfl))
          try simp only [Act.put, List.setIfInBounds_toArray, List.set_cons_zero, List.set_cons_succ]
          refine' wpAnyH_take (i := 1) (oi := ?oiz28) (v := ?vz28) ?haz28 (by kernel_rfl) ?hfz28 ?hrz28 ?hQz28 (Or.inl ⟨?hwz28, ?hyz28⟩) (by assumption) ?restz28
          case haz28 => (simp only [List.getElem?_toArray, List.getElem?_cons_succ, List.getElem?_cons_zero]; exact rfl)
          case hQz28 => exact fun _ _ _ h => h
          case hfz28 => kernel_rfl
          case hrz28 => kernel_rfl
          case hwz28 => rfl
          case hyz28 => (intro w hSw; (try dsimp only at hSw); obtain ⟨e0, e1⟩ := hSw; go_simp; (try with_reducible rfl))
          try simp only [Act.put, List.setIfInBounds_toArray, List.set_cons_zero, List.set_cons_succ]
          refine' wpAnyH_take (i := 2) (oi := ?oiz29) (v := ?vz29) ?haz29 (by kernel_rfl) ?hfz29 ?hrz29 ?hQz29 (Or.inl ⟨?hwz29, ?hyz29⟩) (by assumption) ?restz29
          case haz29 => (simp only [List.getElem?_toArray, List.getElem?_cons_succ, List.getElem?_cons_zero]; exact rfl)
          case hQz29 => exact fun _ _ _ h => h
          case hfz29 => kernel_rfl
          case hrz29 => kernel_rfl
          case hwz29 => rfl
          case hyz29 => (intro w hSw; (try dsimp only at hSw); obtain ⟨e0, e1⟩ := hSw; go_simp; (try with_reducible rfl))
          try simp only [Act.put, List.setIfInBounds_toArray, List.set_cons_zero, List.set_cons_succ]
          refine' wpAnyH_take (i := 3) (oi := ?oiz30) (v := ?vz30) ?haz30 (by kernel_rfl) ?hfz30 ?hrz30 ?hQz30 (Or.inl ⟨?hwz30, ?hyz30⟩) (by assumption) ?restz30
          case haz30 => (simp only [List.getElem?_toArray, List.getElem?_cons_succ, List.getElem?_cons_zero]; exact rfl)
          case hQz30 => exact fun _ _ _ h => h
          case hfz30 => kernel_rfl
          case hrz30 => kernel_rfl
          case hwz30 => rfl
          case hyz30 => (intro w hSw; (try dsimp only at hSw); obtain ⟨e0, e1⟩ := hSw; go_simp; (try with_reducible rfl))
          try simp only [Act.put, List.setIfInBounds_toArray, List.set_cons_zero, List.set_cons_succ]
          refine' wpAnyH_take (i := 4) (oi := ?oiz31) (v := ?vz31) ?haz31 (by kernel_rfl) ?hfz31 ?hrz31 ?hQz31 (Or.inl ⟨?hwz31, ?hyz31⟩) (by assumption) ?restz31
          case haz31 => (simp only [List.getElem?_toArray, List.getElem?_cons_succ, List.getElem?_cons_zero]; exact rfl)
          case hQz31 => exact fun _ _ _ h => h
          case hfz31 => kernel_rfl
          case hrz31 => kernel_rfl
          case hwz31 => rfl
          case hyz31 => (intro w hSw; (try dsimp only at hSw); obtain ⟨e0, e1⟩ := hSw; go_simp; (try with_reducible rfl))
          try simp only [Act.put, List.setIfInBounds_toArray, List.set_cons_zero, List.set_cons_succ]
          refine' wpAnyH_take (i := 5) (oi := ?oiz32) (v := ?vz32) ?haz32 (by kernel_rfl) ?hfz32 ?hrz32 ?hQz32 (Or.inl ⟨?hwz32, ?hyz32⟩) (by assumption) ?restz32
          case haz32 => (simp only [List.getElem?_toArray, List.getElem?_cons_succ, List.getElem?_cons_zero]; exact rfl)
          case hQz32 => exact fun _ _ _ h => h
          case hfz32 => kernel_rfl
          case hrz32 => kernel_rfl
          case hwz32 => rfl
          case hyz32 => (intro w hSw; (try dsimp only at hSw); obtain ⟨e0, e1⟩ := hSw; go_simp; (try with_reducible rfl))
          try simp only [Act.put, List.setIfInBounds_toArray, List.set_cons_zero, List.set_cons_succ]
          refine' wpAnyH_take (i := 6) (oi := ?oiz33) (v := ?vz33) ?haz33 (by kernel_rfl) ?hfz33 ?hrz33 ?hQz33 (Or.inl ⟨?hwz33, ?hyz33⟩) (by assumption) ?restz33
          case haz33 => (simp only [List.getElem?_toArray, List.getElem?_cons_succ, List.getElem?_cons_zero]; exact rfl)
          case hQz33 => exact fun _ _ _ h => h
          case hfz33 => kernel_rfl
          case hrz33 => kernel_rfl
          case hwz33 => rfl
          case hyz33 => (intro w hSw; (try dsimp only at hSw); obtain ⟨e0, e1⟩ := hSw; go_simp; (try with_reducible rfl))
          try simp only [Act.put, List.setIfInBounds_toArray, List.set_cons_zero, List.set_cons_succ]
          refine' wpAnyH_take (i := 7) (oi := ?oiz34) (v := ?vz34) ?haz34 (by kernel_rfl) ?hfz34 ?hrz34 ?hQz34 (Or.inl ⟨?hwz34, ?hyz34⟩) (by assumption) ?restz34
          case haz34 => (simp only [List.getElem?_toArray, List.getElem?_cons_succ, List.getElem?_cons_zero]; exact rfl)
          case hQz34 => exact fun _ _ _ h => h
          case hfz34 => kernel_rfl
          case hrz34 => kernel_rfl
          case hwz34 => rfl
          case hyz34 => (intro w hSw; (try dsimp only at hSw); obtain ⟨e0, e1⟩ := hSw; go_simp; (try with_reducible rfl))
          try simp only [Act.put, List.setIfInBounds_toArray, List.set_cons_zero, List.set_cons_succ]
          refine' wpAnyH_take (i := 8) (oi := ?oiz35) (v := ?vz35) ?haz35 (by kernel_rfl) ?hfz35 ?hrz35 ?hQz35 (Or.inl ⟨?hwz35, ?hyz35⟩) (by assumption) ?restz35
          case haz35 => (simp only [List.getElem?_toArray, List.getElem?_cons_succ, List.getElem?_cons_zero]; exact rfl)
          case hQz35 => exact fun _ _ _ h => h
          case hfz35 => kernel_rfl
          case hrz35 => kernel_rfl
          case hwz35 => rfl
          case hyz35 => (intro w hSw; (try dsimp only at hSw); obtain ⟨e0, e1⟩ := hSw; go_simp; (try with_reducible rfl))
          try simp only [Act.put, List.setIfInBounds_toArray, List.set_cons_zero, List.set_cons_succ]
          refine' wpAnyH_take (i := 9) (oi := ?oiz36) (v := ?vz36) ?haz36 (by kernel_rfl) ?hfz36 ?hrz36 ?hQz36 (Or.inl ⟨?hwz36, ?hyz36⟩) (by assumption) ?restz36
          case haz36 => (simp only [List.getElem?_toArray, List.getElem?_cons_succ, List.getElem?_cons_zero]; exact rfl)
          case hQz36 => exact fun _ _ _ h => h
          case hfz36 => kernel_rfl
          case hrz36 => kernel_rfl
          case hwz36 => rfl
          case hyz36 => (intro w hSw; (try dsimp only at hSw); obtain ⟨e0, e1⟩ := hSw; go_simp; (try with_reducible rfl))
          try simp only [Act.put, List.setIfInBounds_toArray, List.set_cons_zero, List.set_cons_succ]
          refine' wpAnyH_take (i := 10) (oi := ?oiz37) (v := ?vz37) ?haz37 (by kernel_rfl) ?hfz37 ?hrz37 ?hQz37 (Or.inl ⟨?hwz37, ?hyz37⟩) (by assumption) ?restz37
          case haz37 => (simp only [List.getElem?_toArray, List.getElem?_cons_succ, List.getElem?_cons_zero]; exact rfl)
          case hQz37 => exact fun _ _ _ h => h
          case hfz37 => kernel_rfl
          case hrz37 => kernel_rfl
          case hwz37 => rfl
          case hyz37 => (intro w hSw; (try dsimp only at hSw); obtain ⟨e0, e1⟩ := hSw; go_simp; (try with_reducible rfl))
          try simp only [Act.put, List.setIfInBounds_toArray, List.set_cons_zero, List.set_cons_succ]
          refine' wpAnyH_take (i := 11) (oi := ?oiz38) (v := ?vz38) ?haz38 (by kernel_rfl) ?hfz38 ?hrz38 ?hQz38 (Or.inl ⟨?hwz38, ?hyz38⟩) (by assumption) ?restz38
          case haz38 => (simp only [List.getElem?_toArray, List.getElem?_cons_succ, List.getElem?_cons_zero]; exact rfl)
          case hQz38 => exact fun _ _ _ h => h
          case hfz38 => kernel_rfl
          case hrz38 => kernel_rfl
          case hwz38 => rfl
          case hyz38 => (intro w hSw; (try dsimp only at hSw); obtain ⟨e0, e1⟩ := hSw; go_simp; (try with_reducible rfl))
          try simp only [Act.put, List.setIfInBounds_toArray, List.set_cons_zero, List.set_cons_succ]
          refine' wpAnyH_take (i := 12) (oi := ?oiz39) (v := ?vz39) ?haz39 (by kernel_rfl) ?hfz39 ?hrz39 ?hQz39 (Or.inl ⟨?hwz39, ?hyz39⟩) (by assumption) ?restz39
          case haz39 => (simp only [List.getElem?_toArray, List.getElem?_cons_succ, List.getElem?_cons_zero]; exact rfl)
          case hQz39 => exact fun _ _ _ h => h
          case hfz39 => kernel_rfl
          case hrz39 => kernel_rfl
          case hwz39 => rfl
          case hyz39 => (intro w hSw; (try dsimp only at hSw); obtain ⟨e0, e1⟩ := hSw; go_simp; (try with_reducible rfl))
          try simp only [Act.put, List.setIfInBounds_toArray, List.set_cons_zero, List.set_cons_succ]
          refine wpAnyH_done (by kernel_rfl) ?_ _
          go_wp2_with fail
          go_roundw
          case rel => exact ⟨k + 1, by omega, by go_num, by rw [HX.out, iz_take]; exact HCD.out, HBD.out⟩
          case measure => simp [intOf]; omega
        · rw [if_neg (fun h => htq h.2)] at hst
          have HX := Lib.hid hst; have HT := Lib.hid ht
          clear hst ht HST
          have hne : ¬ ((t : Int) = (q : Int)) := by omega
          have hod := ho.below (Below.refl _ _).drew
          have hbd := HBR.out.drew
          have hbds : W.heap.size ≤ V.drew.heap.size := hbs
          have HBD := Lib.hid hbd
          clear ho hbd
          go_wp2_with fail
          refine wp_region_held_drew (S := fun X => X.cell? (vat u5 l) = some (.int .i64 t) ∧ X.cell? (vat dv p) = some (.int .i64 q)) (by kernel_rfl) (⟨cl, cd⟩) (fun hHeld => ?_)
          refine' wpAnyH_take (i := 0) (oi := ?oiz14) (v := ?vz14) ?haz14 (by kernel_rfl) ?hfz14 ?hrz14 ?hQz14 (Or.inl ⟨?hwz14, ?hyz14⟩) (by assumption) ?restz14
          case haz14 => (simp only [List.getElem?_toArray, List.getElem?_cons_zero]; exact rfl)
          case hQz14 => exact fun _ _ _ h => h
          case hfz14 => kernel_rfl
          case hrz14 => kernel_rfl
          case hwz14 => rfl
          case hyz14 => (intro w hSw; (try dsimp only at hSw); obtain ⟨e0, e1⟩ := hSw; go_simp; (try with_reducible rfl))
          try simp only [Act.put, List.setIfInBounds_toArray, List.set_cons_zero, List.set_cons_succ]
          refine' wpAnyH_take (i := 1) (oi := ?oiz15) (v := ?vz15) ?haz15 (by kernel_rfl) ?hfz15 ?hrz15 ?hQz15 (Or.inl ⟨?hwz15, ?hyz15⟩) (by assumption) ?restz15
          case haz15 => (simp only [List.getElem?_toArray, List.getElem?_cons_succ, List.getElem?_cons_zero]; exact rfl)
          case hQz15 => exact fun _ _ _ h => h
          case hfz15 => kernel_rfl
          case hrz15 => kernel_rfl
          case hwz15 => rfl
          case hyz15 => (intro w hSw; (try dsimp only at hSw); obtain ⟨e0, e1⟩ := hSw; go_simp; (try with_reducible rfl))
          try simp only [Act.put, List.setIfInBounds_toArray, List.set_cons_zero, List.set_cons_succ]
          refine' wpAnyH_take (i := 2) (oi := ?oiz16) (v := ?vz16) ?haz16 (by kernel_rfl) ?hfz16 ?hrz16 ?hQz16 (Or.inl ⟨?hwz16, ?hyz16⟩) (by assumption) ?restz16
          case haz16 => (simp only [List.getElem?_toArray, List.getElem?_cons_succ, List.getElem?_cons_zero]; exact rfl)
          case hQz16 => exact fun _ _ _ h => h
          case hfz16 => kernel_rfl
          case hrz16 => kernel_rfl
          case hwz16 => rfl
          case hyz16 => (intro w hSw; (try dsimp only at hSw); obtain ⟨e0, e1⟩ := hSw; go_simp; (try with_reducible rfl))
          try simp only [Act.put, List.setIfInBounds_toArray, List.set_cons_zero, List.set_cons_succ]
          refine' wpAnyH_take (i := 3) (oi := ?oiz17) (v := ?vz17) ?haz17 (by kernel_rfl) ?hfz17 ?hrz17 ?hQz17 (Or.inl ⟨?hwz17, ?hyz17⟩) (by assumption) ?restz17
          case haz17 => (simp only [List.getElem?_toArray, List.getElem?_cons_succ, List.getElem?_cons_zero]; exact rfl)
          case hQz17 => exact fun _ _ _ h => h
          case hfz17 => kernel_rfl
          case hrz17 => kernel_rfl
          case hwz17 => rfl
          case hyz17 => (intro w hSw; (try dsimp only at hSw); obtain ⟨e0, e1⟩ := hSw; go_simp; (try with_reducible rfl))
          try simp only [Act.put, List.setIfInBounds_toArray, List.set_cons_zero, List.set_cons_succ]
          refine' wpAnyH_take (i := 4) (oi := ?oiz18) (v := ?vz18) ?haz18 (by kernel_rfl) ?hfz18 ?hrz18 ?hQz18 (Or.inl ⟨?hwz18, ?hyz18⟩) (by assumption) ?restz18
          case haz18 => (simp only [List.getElem?_toArray, List.getElem?_cons_succ, List.getElem?_cons_zero]; exact rfl)
          case hQz18 => exact fun _ _ _ h => h
          case hfz18 => kernel_rfl
          case hrz18 => kernel_rfl
          case hwz18 => rfl
          case hyz18 => (intro w hSw; (try dsimp only at hSw); obtain ⟨e0, e1⟩ := hSw; go_simp; (try with_reducible rfl))
          try simp only [Act.put, List.setIfInBounds_toArray, List.set_cons_zero, List.set_cons_succ]
          refine' wpAnyH_take (i := 5) (oi := ?oiz19) (v := ?vz19) ?haz19 (by kernel_rfl) ?hfz19 ?hrz19 ?hQz19 (Or.inl ⟨?hwz19, ?hyz19⟩) (by assumption) ?restz19
          case haz19 => (simp only [List.getElem?_toArray, List.getElem?_cons_succ, List.getElem?_cons_zero]; exact rfl)
          case hQz19 => exact fun _ _ _ h => h
          case hfz19 => kernel_rfl
          case hrz19 => kernel_rfl
          case hwz19 => rfl
          case hyz19 => (intro w hSw; (try dsimp only at hSw); obtain ⟨e0, e1⟩ := hSw; go_simp; (try with_reducible rfl))
          try simp only [Act.put, List.setIfInBounds_toArray, List.set_cons_zero, List.set_cons_succ]
          refine' wpAnyH_take (i := 6) (oi := ?oiz20) (v := ?vz20) ?haz20 (by kernel_rfl) ?hfz20 ?hrz20 ?hQz20 (Or.inl ⟨?hwz20, ?hyz20⟩) (by assumption) ?restz20
          case haz20 => (simp only [List.getElem?_toArray, List.getElem?_cons_succ, List.getElem?_cons_zero]; exact rfl)
          case hQz20 => exact fun _ _ _ h => h
          case hfz20 => kernel_rfl
          case hrz20 => kernel_rfl
          case hwz20 => rfl
          case hyz20 => (intro w hSw; (try dsimp only at hSw); obtain ⟨e0, e1⟩ := hSw; go_simp; (try with_reducible rfl))
          try simp only [Act.put, List.setIfInBounds_toArray, List.set_cons_zero, List.set_cons_succ]
          refine' wpAnyH_take (i := 7) (oi := ?oiz21) (v := ?vz21) ?haz21 (by kernel_rfl) ?hfz21 ?hrz21 ?hQz21 (Or.inl ⟨?hwz21, ?hyz21⟩) (by assumption) ?restz21
          case haz21 => (simp only [List.getElem?_toArray, List.getElem?_cons_succ, List.getElem?_cons_zero]; exact rfl)
          case hQz21 => exact fun _ _ _ h => h
          case hfz21 => kernel_rfl
          case hrz21 => kernel_rfl
          case hwz21 => rfl
          case hyz21 => (intro w hSw; (try dsimp only at hSw); obtain ⟨e0, e1⟩ := hSw; go_simp; (try with_reducible rfl))
          try simp only [Act.put, List.setIfInBounds_toArray, List.set_cons_zero, List.set_cons_succ]
          refine' wpAnyH_take (i := 8) (oi := ?oiz22) (v := ?vz22) ?haz22 (by kernel_rfl) ?hfz22 ?hrz22 ?hQz22 (Or.inl ⟨?hwz22, ?hyz22⟩) (by assumption) ?restz22
          case haz22 => (simp only [List.getElem?_toArray, List.getElem?_cons_succ, List.getElem?_cons_zero]; exact rfl)
          case hQz22 => exact fun _ _ _ h => h
          case hfz22 => kernel_rfl
          case hrz22 => kernel_rfl
          case hwz22 => rfl
          case hyz22 => (intro w hSw; (try dsimp only at hSw); obtain ⟨e0, e1⟩ := hSw; go_simp; (try with_reducible rfl))
          try simp only [Act.put, List.setIfInBounds_toArray, List.set_cons_zero, List.set_cons_succ]
          refine' wpAnyH_take (i := 9) (oi := ?oiz23) (v := ?vz23) ?haz23 (by kernel_rfl) ?hfz23 ?hrz23 ?hQz23 (Or.inl ⟨?hwz23, ?hyz23⟩) (by assumption) ?restz23
          case haz23 => (simp only [List.getElem?_toArray, List.getElem?_cons_succ, List.getElem?_cons_zero]; exact rfl)
          case hQz23 => exact fun _ _ _ h => h
          case hfz23 => kernel_rfl
          case hrz23 => kernel_rfl
          case hwz23 => rfl
          case hyz23 => (intro w hSw; (try dsimp only at hSw); obtain ⟨e0, e1⟩ := hSw; go_simp; (try with_reducible rfl))
          try simp only [Act.put, List.setIfInBounds_toArray, List.set_cons_zero, List.set_cons_succ]
          refine' wpAnyH_take (i := 10) (oi := ?oiz24) (v := ?vz24) ?haz24 (by kernel_rfl) ?hfz24 ?hrz24 ?hQz24 (Or.inl ⟨?hwz24, ?hyz24⟩) (by assumption) ?restz24
          case haz24 => (simp only [List.getElem?_toArray, List.getElem?_cons_succ, List.getElem?_cons_zero]; exact rfl)
          case hQz24 => exact fun _ _ _ h => h
          case hfz24 => kernel_rfl
          case hrz24 => kernel_rfl
          case hwz24 => rfl
          case hyz24 => (intro w hSw; (try dsimp only at hSw); obtain ⟨e0, e1⟩ := hSw; go_simp; (try with_reducible rfl))
          try simp only [Act.put, List.setIfInBounds_toArray, List.set_cons_zero, List.set_cons_succ]
          refine' wpAnyH_take (i := 11) (oi := ?oiz25) (v := ?vz25) ?haz25 (by kernel_rfl) ?hfz25 ?hrz25 ?hQz25 (Or.inl ⟨?hwz25, ?hyz25⟩) (by assumption) ?restz25
          case haz25 => (simp only [List.getElem?_toArray, List.getElem?_cons_succ, List.getElem?_cons_zero]; exact rfl)
          case hQz25 => exact fun _ _ _ h => h
          case hfz25 => kernel_rfl
          case hrz25 => kernel_rfl
          case hwz25 => rfl
          case hyz25 => (intro w hSw; (try dsimp only at hSw); obtain ⟨e0, e1⟩ := hSw; go_simp; (try with_reducible rfl))
          try simp only [Act.put, List.setIfInBounds_toArray, List.set_cons_zero, List.set_cons_succ]
          refine' wpAnyH_take (i := 12) (oi := ?oiz26) (v := ?vz26) ?haz26 (by kernel_rfl) ?hfz26 ?hrz26 ?hQz26 (Or.inl ⟨?hwz26, ?hyz26⟩) (by assumption) ?restz26
          case haz26 => (simp only [List.getElem?_toArray, List.getElem?_cons_succ, List.getElem?_cons_zero]; exact rfl)
          case hQz26 => exact fun _ _ _ h => h
          case hfz26 => kernel_rfl
          case hrz26 => kernel_rfl
          case hwz26 => rfl
          case hyz26 => (intro w hSw; (try dsimp only at hSw); obtain ⟨e0, e1⟩ := hSw; go_simp; (try with_reducible rfl))
          try simp only [Act.put, List.setIfInBounds_toArray, List.set_cons_zero, List.set_cons_succ]
          refine wpAnyH_done (by kernel_rfl) ?_ _
          go_wp2_with (at_builtin; refine wpList_push rfl _ _ rfl rfl rfl hod hbds (by omega) ?_; intro out2 w2 ho2 hg2 hr2)
          have hb2 : Below W.heap.size W w2 := Below_of_grown HBD.out hg2 hbds (fun b hb => (hod.lt b hb).1)
          go_roundw
          case rel => exact ⟨k + 1, by omega, by go_num, by rw [HX.out, iz_append]; exact ho2, hb2⟩
          case measure => simp [intOf]; omega
    · obtain rfl : k = N2 := by omega
      have hpl : planarL n D = ((opens n D k).length == 0) := by unfold planarL; rw [HN2.out]
      have hfin := HB.out.trans (hbr.mono hws)
      obtain ⟨m, hm⟩ : ∃ m, (opens n D k).length = m := ⟨_, rfl⟩
      rw [hm] at lo hpl hlb
      have HP := Lib.hid hpl; have HF := Lib.hid hfin
      clear hpl hfin ho hbr hm
      rcases Nat.eq_zero_or_pos m with h0 | h0
      · subst h0
        go_wp2_with fail
        go_ret
        exact ⟨by rw [HP.out]; rfl, HF.out⟩
      · have hne : ¬ (m : Int) = 0 := by omega
        have hmb : (m == 0) = false := by simp; omega
        have hmi : ((m : Int) == 0) = false := by simp; omega
        go_wp2_with fail
        go_ret
        exact ⟨by rw [HP.out, hmb, ← hmi]; rfl, HF.out⟩

end Go.Proofs.Ytplekfgadbjgdaa


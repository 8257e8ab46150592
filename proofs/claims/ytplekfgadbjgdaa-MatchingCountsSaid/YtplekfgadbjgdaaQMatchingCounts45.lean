/- Elements: fill walked, by induction on the number of free places. -/
import Derived.Test.YtplekfgadbjgdaaQMatchingCounts0
import Derived.Test.YtplekfgadbjgdaaQMatchingCounts1
import Derived.Test.YtplekfgadbjgdaaQMatchingCounts10
import Derived.Test.YtplekfgadbjgdaaQMatchingCounts11
import Derived.Test.YtplekfgadbjgdaaQMatchingCounts12
import Derived.Test.YtplekfgadbjgdaaQMatchingCounts13
import Derived.Test.YtplekfgadbjgdaaQMatchingCounts14
import Derived.Test.YtplekfgadbjgdaaQMatchingCounts15
import Derived.Test.YtplekfgadbjgdaaQMatchingCounts16
import Derived.Test.YtplekfgadbjgdaaQMatchingCounts17
import Derived.Test.YtplekfgadbjgdaaQMatchingCounts18
import Derived.Test.YtplekfgadbjgdaaQMatchingCounts19
import Derived.Test.YtplekfgadbjgdaaQMatchingCounts20
import Derived.Test.YtplekfgadbjgdaaQMatchingCounts21
import Derived.Test.YtplekfgadbjgdaaQMatchingCounts22
import Derived.Test.YtplekfgadbjgdaaQMatchingCounts23
import Derived.Test.YtplekfgadbjgdaaQMatchingCounts24
import Derived.Test.YtplekfgadbjgdaaQMatchingCounts25
import Derived.Test.YtplekfgadbjgdaaQMatchingCounts26
import Derived.Test.YtplekfgadbjgdaaQMatchingCounts27
import Derived.Test.YtplekfgadbjgdaaQMatchingCounts28
import Derived.Test.YtplekfgadbjgdaaQMatchingCounts29
import Derived.Test.YtplekfgadbjgdaaQMatchingCounts30
import Derived.Test.YtplekfgadbjgdaaQMatchingCounts36
import Derived.Test.YtplekfgadbjgdaaQMatchingCounts44
import Derived.Shelf.Strings.Builder1
import Derived.Deep.RegionLaw
import Derived.RangeFuncNested
import Derived.RangeFuncBound
import Derived.RangeFuncCalls
import Derived.RangeFuncLeaves
import Derived.RangeFuncBox
import Derived.Shelf.Abstract
import Derived.Shelf.RegionOpen
import Derived.OwnWalkIn
import Derived.TacticsInMore
import Derived.LoopNIn
import Derived.LoopIn
import Derived.Maps.AppendAt
namespace Go.Proofs.Ytplekfgadbjgdaa
open Go.RowKit Go.Sl Go.TL

/-- What fill leaves. -/
def FillRes (B0 B1 bd bn bo bf n f : Nat) (dv : Value) (E : List Nat) (xss : List (List Int)) (w w' : World) (e : Ending) : Prop :=
  e = .returned (.tuple #[]) ∧ (∃ ov' vs', FS B0 B1 bd bn bo bf n dv ov' E vs' (xss ++ (fillR n f E).map iz) w') ∧ Below B0 w w'

set_option maxHeartbeats 8000000 in
set_option maxRecDepth 100000 in
theorem fill_calls (n B0 B1 bd bn bo bf : Nat) (h1 : 1 ≤ n) (h6 : n ≤ 6) (dv : Value) : ∀ (f : Nat) (E : List Nat) (ov : Value) (vs : List Value) (xss : List (List Int)) (w : World), FS B0 B1 bd bn bo bf n dv ov E vs xss w →
    E.length = 2 * n → (∀ x ∈ E, x ≤ 2 * n) → E.count 0 < 2 * f → xss.length + (fillR n f E).length ≤ 1000000 →
    Calls Try.prog 59 #[.pointer (some ⟨bd, 0, none⟩), .pointer (some ⟨bn, 0, none⟩), .pointer (some ⟨bo, 0, none⟩), .pointer (some ⟨bf, 0, none⟩)] w fun e w' => FillRes B0 B1 bd bn bo bf n f dv E xss w w' e := by
  intro f
  induction f with
  | zero => intro E ov vs xss w fs hE hle hc; exact absurd hc (Nat.not_lt_zero _)
  | succ f ih =>
    intro E ov vs xss w fs hE hle hc hlen
    have IH := Lib.hid ih
    clear ih
    obtain ⟨N2, hN2⟩ : ∃ N2, 2 * n = N2 := ⟨_, rfl⟩
    have sd := fs.od.isSl
    have ld := fs.od.len
    rw [dz_length, hE, hN2] at ld
    have so := fs.ro.rows.isSl
    have hN2b : N2 ≤ 12 := by omega
    have hN21 : 1 ≤ N2 := by omega
    have FSH := Lib.hid fs; have HE := Lib.hid hE; have HLE := Lib.hid hle; have HLEN := Lib.hid hlen; have HC := Lib.hid hc
    have kd := fs.kd.cell
    have bl := fs.lts
    have BL := Lib.hid bl
    cases hfr : free0 E 0 with
    | none =>
      have hix := idx_none hfr
      have hne := free0_none hfr
      have hspec := fillR_none (n := n) (f := f) hfr
      have hiz := iz_pred hne
      have hpl := fun W hW => planar_calls n (E.map Nat.pred) dv W hW (by simpa using hE) (fun i hi => by
        have hiE : i < E.length := by omega
        have h2 := hle E[i] (List.getElem_mem hiE)
        have h3 := hne E[i] (List.getElem_mem hiE)
        simp only [List.getD_eq_getElem?_getD, List.getElem?_map, List.getElem?_eq_getElem hiE, Option.map_some, Option.getD_some]
        show E[i] - 1 < 2 * n
        omega) h1 h6
      rw [hiz] at hpl
      have HIX := Lib.hid hix; have HSP := Lib.hid hspec; have HIZ := Lib.hid hiz; have HPL := Lib.hid hpl
      clear hfr hix hne hspec hiz hpl fs hE hle hlen hc bl hN2
      go_enter Try.func59, Try.ntmps59
      go_wp2_with fail
      refine (index_calls dv (dz E) (-1) _ FSH.out.od.ints).mono ?_
      rw [HIX.out]
      rintro e w' ⟨rfl, rfl⟩
      have kn := FSH.out.kn.cell
      go_wp2_with fail
      refine (HPL.out _ FSH.out.od.ints).mono ?_
      clear kd kn
      cases hp : planarL n (E.map Nat.pred) with
      | true =>
        rintro e wr ⟨rfl, hb⟩
        have fs := FSH.out.below hb
        have HB := Lib.hid (hb.mono (show B0 ≤ w.heap.size by have := BL.out; omega))
        have HP := Lib.hid hp
        clear hb hp
        go_wp2_with fail
        refine wp_region_held_drew (S := fun _ => True) (by kernel_rfl) (trivial) (fun hHeld => ?_)
        have BEL : Below (World.heap wr).size wr (World.drew wr) := (Below.refl _ _).drew
        have fs := fs.below BEL
        obtain ⟨y0, hy0⟩ : ∃ y0, y0 = World.drew wr := ⟨_, rfl⟩
        rw [← hy0] at BEL fs ⊢
        (try rw [← hy0] at hHeld)
        clear hy0
        refine wpAnyH_ready (rs := [0, 1]) (by kernel_rfl) (by simp) ?_
        refine' AllReadyH.cons (o := ?oiz20) ?haz20 (fun K hK => ?stepz20) (AllReadyH.cons (o := ?oiz21) ?haz21 (fun K hK => ?stepz21) AllReadyH.nil)
        case haz20 => (simp only [List.getElem?_toArray, List.getElem?_cons_zero]; exact rfl)
        case haz21 => (simp only [List.getElem?_toArray, List.getElem?_cons_succ, List.getElem?_cons_zero]; exact rfl)
        case stepz20 =>
          have aa0 := fs.ko.cell
          go_simp

          clear aa0
          refine hK.out _ _ (trivial) (fun hHeld => ?_)
          clear hK K
          try simp only [Act.put, List.setIfInBounds_toArray, List.set_cons_zero, List.set_cons_succ]
          refine wpAnyH_ready (rs := [1]) (by kernel_rfl) (by simp) ?_
          refine' AllReadyH.cons (o := ?oiz5) ?haz5 (fun K hK => ?stepz5) AllReadyH.nil
          case haz5 => (simp only [List.getElem?_toArray, List.getElem?_cons_succ, List.getElem?_cons_zero]; exact rfl)
          have aa1 := fs.kd.cell
          go_simp

          clear aa1
          refine hK.out _ _ (trivial) (fun hHeld => ?_)
          clear hK K
          try simp only [Act.put, List.setIfInBounds_toArray, List.set_cons_zero, List.set_cons_succ]
          refine wpAnyH_ready (rs := [2]) (by kernel_rfl) (by simp) ?_
          refine' AllReadyH.cons (o := ?oiz4) ?haz4 (fun K hK => ?stepz4) AllReadyH.nil
          case haz4 => (simp only [List.getElem?_toArray, List.getElem?_cons_succ, List.getElem?_cons_zero]; exact rfl)
          go_simp
          go_at_call 25
          refine (clone_calls dv (dz E) y0 fs.od.ints (by rw [dz_length, HE.out]; omega)).mono ?_
          rintro e y1 ⟨r, rfl, hr, sb⟩
          have sr := hr.isSl
          have hrr : Go.Sl.row r = some (vblk r) := row_some (by have := hr.ints.cap; rw [dz_length, HE.out] at this; omega)
          have HAP := Lib.hid (show Go.Sl.row ov ≠ some (vblk r) from fun e => by have := (fs.ro.own.lt _ e).2; have := (hr.lt _ hrr).1; omega)
          have HEA := Lib.hid (show ∀ i, i < xss.length → vblk (nthv vs i) ≠ vblk r from fun i hi e => by have := (fs.ro.blk hi).2; have := (hr.lt _ hrr).1; omega)
          replace hr := hr.low (B' := B1) (by have := fs.lts; omega)
          clear hrr
          replace fs := fs.below sb
          replace BEL := Below.chain BEL sb
          clear sb
          refine hK.out _ _ (trivial) (fun hHeld => ?_)
          clear hK K
          try simp only [Act.put, List.setIfInBounds_toArray, List.set_cons_zero, List.set_cons_succ]
          refine wpAnyH_ready (rs := [3]) (by kernel_rfl) (by simp) ?_
          refine' AllReadyH.cons (o := ?oiz3) ?haz3 (fun K hK => ?stepz3) AllReadyH.nil
          case haz3 => (simp only [List.getElem?_toArray, List.getElem?_cons_succ, List.getElem?_cons_zero]; exact rfl)
          go_simp
          obtain ⟨y2, hy2⟩ : ∃ y2, y2 = World.alloc y1 (.cells #[r] 22) := ⟨_, rfl⟩
          rw [← hy2]
          have sb : Below (World.heap y1).size y1 y2 := by rw [hy2]; exact (Below.refl _ _).alloc (Nat.le_refl _) _
          have HY3 := Lib.hid hy2
          have FW := Lib.hid fs
          have RW := Lib.hid hr
          have BW3 := Lib.hid (show Below B0 w y1 from Below.trans HB.out (BEL.mono (by have := BL.out; have := HB.out.size; omega)))
          clear hy2
          clear hr
          replace fs := fs.below sb
          replace BEL := Below.chain BEL sb
          clear sb
          refine hK.out _ _ (trivial) (fun hHeld => ?_)
          clear hK K
          try simp only [Act.put, List.setIfInBounds_toArray, List.set_cons_zero, List.set_cons_succ]
          refine wpAnyH_ready (rs := [4]) (by kernel_rfl) (by simp) ?_
          refine' AllReadyH.cons (o := ?oiz2) ?haz2 (fun K hK => ?stepz2) AllReadyH.nil
          case haz2 => (simp only [List.getElem?_toArray, List.getElem?_cons_succ, List.getElem?_cons_zero]; exact rfl)

          rw [if_pos (by rfl)]
          refine step_pushRO (.tmp 13) (.tmp 16) HY3.out rfl rfl rfl FW.out.ro RW.out (by rw [dz_length, HE.out]; omega) (by have := FW.out.lts; omega) (by have := HLEN.out; omega) HAP.out HEA.out ?_
          intro v9 y9 ho9 hg9
          have s9 := ho9.rows.isSl
          have ko9 := FW.out.ko.grown hg9 (fun e => by have := (FW.out.ro.own.lt _ e).1; have := FW.out.lts; omega)
          refine hK.out _ _ (trivial) (fun hHeld => ?_)
          clear hK K
          try simp only [Act.put, List.setIfInBounds_toArray, List.set_cons_zero, List.set_cons_succ]
          refine wpAnyH_ready (rs := [5]) (by kernel_rfl) (by simp) ?_
          refine' AllReadyH.cons (o := ?oiz1) ?haz1 (fun K hK => ?stepz1) AllReadyH.nil
          case haz1 => (simp only [List.getElem?_toArray, List.getElem?_cons_succ, List.getElem?_cons_zero]; exact rfl)
          have f0 := ko9.free; have b0 := ko9.cell
          go_simp

          clear f0 b0
          refine hK.out _ _ (trivial) (fun hHeld => ?_)
          clear hK K
          try simp only [Act.put, List.setIfInBounds_toArray, List.set_cons_zero, List.set_cons_succ]
          refine wpAnyH_done (by kernel_rfl) ?_ _
          go_wp2_with fail
          have FN := FW.out.pushed ho9 hg9
          have hpl2 := HP.out
          have hsp := HSP.out
          rw [if_pos hpl2] at hsp
          have hspm : (fillR n (f + 1) E).map iz = [dz E] := by rw [hsp, List.map_cons, List.map_nil, HIZ.out]
          have bz : Below B0 w y9 := Below_of_grown BW3.out hg9 (by have := FW.out.lts; omega) (fun b hb => by have := (FW.out.ro.own.lt b hb).1; have := BL.out; omega)
          refine bodyPost_ret (v := .tuple #[]) (by simp [results, Try.results59, go_sem]) rfl ⟨rfl, ⟨v9, _, by rw [hspm]; exact FN⟩, bz.setCell (p := ⟨bo, 0, none⟩) (show B0 ≤ bo by have := BL.out; omega) _⟩
        case stepz21 =>
          have aa1 := fs.kd.cell
          go_simp

          clear aa1
          refine hK.out _ _ (trivial) (fun hHeld => ?_)
          clear hK K
          try simp only [Act.put, List.setIfInBounds_toArray, List.set_cons_zero, List.set_cons_succ]
          refine wpAnyH_ready (rs := [0, 2]) (by kernel_rfl) (by simp) ?_
          refine' AllReadyH.cons (o := ?oiz18) ?haz18 (fun K hK => ?stepz18) (AllReadyH.cons (o := ?oiz19) ?haz19 (fun K hK => ?stepz19) AllReadyH.nil)
          case haz18 => (simp only [List.getElem?_toArray, List.getElem?_cons_zero]; exact rfl)
          case haz19 => (simp only [List.getElem?_toArray, List.getElem?_cons_succ, List.getElem?_cons_zero]; exact rfl)
          case stepz18 =>
            have aa0 := fs.ko.cell
            go_simp

            clear aa0
            refine hK.out _ _ (trivial) (fun hHeld => ?_)
            clear hK K
            try simp only [Act.put, List.setIfInBounds_toArray, List.set_cons_zero, List.set_cons_succ]
            refine wpAnyH_ready (rs := [2]) (by kernel_rfl) (by simp) ?_
            refine' AllReadyH.cons (o := ?oiz9) ?haz9 (fun K hK => ?stepz9) AllReadyH.nil
            case haz9 => (simp only [List.getElem?_toArray, List.getElem?_cons_succ, List.getElem?_cons_zero]; exact rfl)
            go_simp
            go_at_call 25
            refine (clone_calls dv (dz E) y0 fs.od.ints (by rw [dz_length, HE.out]; omega)).mono ?_
            rintro e y4 ⟨r, rfl, hr, sb⟩
            have sr := hr.isSl
            have hrr : Go.Sl.row r = some (vblk r) := row_some (by have := hr.ints.cap; rw [dz_length, HE.out] at this; omega)
            have HAP := Lib.hid (show Go.Sl.row ov ≠ some (vblk r) from fun e => by have := (fs.ro.own.lt _ e).2; have := (hr.lt _ hrr).1; omega)
            have HEA := Lib.hid (show ∀ i, i < xss.length → vblk (nthv vs i) ≠ vblk r from fun i hi e => by have := (fs.ro.blk hi).2; have := (hr.lt _ hrr).1; omega)
            replace hr := hr.low (B' := B1) (by have := fs.lts; omega)
            clear hrr
            replace fs := fs.below sb
            replace BEL := Below.chain BEL sb
            clear sb
            refine hK.out _ _ (trivial) (fun hHeld => ?_)
            clear hK K
            try simp only [Act.put, List.setIfInBounds_toArray, List.set_cons_zero, List.set_cons_succ]
            refine wpAnyH_ready (rs := [3]) (by kernel_rfl) (by simp) ?_
            refine' AllReadyH.cons (o := ?oiz8) ?haz8 (fun K hK => ?stepz8) AllReadyH.nil
            case haz8 => (simp only [List.getElem?_toArray, List.getElem?_cons_succ, List.getElem?_cons_zero]; exact rfl)
            go_simp
            obtain ⟨y5, hy5⟩ : ∃ y5, y5 = World.alloc y4 (.cells #[r] 22) := ⟨_, rfl⟩
            rw [← hy5]
            have sb : Below (World.heap y4).size y4 y5 := by rw [hy5]; exact (Below.refl _ _).alloc (Nat.le_refl _) _
            have HY3 := Lib.hid hy5
            have FW := Lib.hid fs
            have RW := Lib.hid hr
            have BW3 := Lib.hid (show Below B0 w y4 from Below.trans HB.out (BEL.mono (by have := BL.out; have := HB.out.size; omega)))
            clear hy5
            clear hr
            replace fs := fs.below sb
            replace BEL := Below.chain BEL sb
            clear sb
            refine hK.out _ _ (trivial) (fun hHeld => ?_)
            clear hK K
            try simp only [Act.put, List.setIfInBounds_toArray, List.set_cons_zero, List.set_cons_succ]
            refine wpAnyH_ready (rs := [4]) (by kernel_rfl) (by simp) ?_
            refine' AllReadyH.cons (o := ?oiz7) ?haz7 (fun K hK => ?stepz7) AllReadyH.nil
            case haz7 => (simp only [List.getElem?_toArray, List.getElem?_cons_succ, List.getElem?_cons_zero]; exact rfl)

            rw [if_pos (by rfl)]
            refine step_pushRO (.tmp 13) (.tmp 16) HY3.out rfl rfl rfl FW.out.ro RW.out (by rw [dz_length, HE.out]; omega) (by have := FW.out.lts; omega) (by have := HLEN.out; omega) HAP.out HEA.out ?_
            intro v9 y9 ho9 hg9
            have s9 := ho9.rows.isSl
            have ko9 := FW.out.ko.grown hg9 (fun e => by have := (FW.out.ro.own.lt _ e).1; have := FW.out.lts; omega)
            refine hK.out _ _ (trivial) (fun hHeld => ?_)
            clear hK K
            try simp only [Act.put, List.setIfInBounds_toArray, List.set_cons_zero, List.set_cons_succ]
            refine wpAnyH_ready (rs := [5]) (by kernel_rfl) (by simp) ?_
            refine' AllReadyH.cons (o := ?oiz6) ?haz6 (fun K hK => ?stepz6) AllReadyH.nil
            case haz6 => (simp only [List.getElem?_toArray, List.getElem?_cons_succ, List.getElem?_cons_zero]; exact rfl)
            have f0 := ko9.free; have b0 := ko9.cell
            go_simp

            clear f0 b0
            refine hK.out _ _ (trivial) (fun hHeld => ?_)
            clear hK K
            try simp only [Act.put, List.setIfInBounds_toArray, List.set_cons_zero, List.set_cons_succ]
            refine wpAnyH_done (by kernel_rfl) ?_ _
            go_wp2_with fail
            have FN := FW.out.pushed ho9 hg9
            have hpl2 := HP.out
            have hsp := HSP.out
            rw [if_pos hpl2] at hsp
            have hspm : (fillR n (f + 1) E).map iz = [dz E] := by rw [hsp, List.map_cons, List.map_nil, HIZ.out]
            have bz : Below B0 w y9 := Below_of_grown BW3.out hg9 (by have := FW.out.lts; omega) (fun b hb => by have := (FW.out.ro.own.lt b hb).1; have := BL.out; omega)
            refine bodyPost_ret (v := .tuple #[]) (by simp [results, Try.results59, go_sem]) rfl ⟨rfl, ⟨v9, _, by rw [hspm]; exact FN⟩, bz.setCell (p := ⟨bo, 0, none⟩) (show B0 ≤ bo by have := BL.out; omega) _⟩
          case stepz19 =>
            go_simp
            go_at_call 25
            refine (clone_calls dv (dz E) y0 fs.od.ints (by rw [dz_length, HE.out]; omega)).mono ?_
            rintro e y7 ⟨r, rfl, hr, sb⟩
            have sr := hr.isSl
            have hrr : Go.Sl.row r = some (vblk r) := row_some (by have := hr.ints.cap; rw [dz_length, HE.out] at this; omega)
            have HAP := Lib.hid (show Go.Sl.row ov ≠ some (vblk r) from fun e => by have := (fs.ro.own.lt _ e).2; have := (hr.lt _ hrr).1; omega)
            have HEA := Lib.hid (show ∀ i, i < xss.length → vblk (nthv vs i) ≠ vblk r from fun i hi e => by have := (fs.ro.blk hi).2; have := (hr.lt _ hrr).1; omega)
            replace hr := hr.low (B' := B1) (by have := fs.lts; omega)
            clear hrr
            replace fs := fs.below sb
            replace BEL := Below.chain BEL sb
            clear sb
            refine hK.out _ _ (trivial) (fun hHeld => ?_)
            clear hK K
            try simp only [Act.put, List.setIfInBounds_toArray, List.set_cons_zero, List.set_cons_succ]
            refine wpAnyH_ready (rs := [0, 3]) (by kernel_rfl) (by simp) ?_
            refine' AllReadyH.cons (o := ?oiz16) ?haz16 (fun K hK => ?stepz16) (AllReadyH.cons (o := ?oiz17) ?haz17 (fun K hK => ?stepz17) AllReadyH.nil)
            case haz16 => (simp only [List.getElem?_toArray, List.getElem?_cons_zero]; exact rfl)
            case haz17 => (simp only [List.getElem?_toArray, List.getElem?_cons_succ, List.getElem?_cons_zero]; exact rfl)
            case stepz16 =>
              have aa0 := fs.ko.cell
              go_simp

              clear aa0
              refine hK.out _ _ (trivial) (fun hHeld => ?_)
              clear hK K
              try simp only [Act.put, List.setIfInBounds_toArray, List.set_cons_zero, List.set_cons_succ]
              refine wpAnyH_ready (rs := [3]) (by kernel_rfl) (by simp) ?_
              refine' AllReadyH.cons (o := ?oiz12) ?haz12 (fun K hK => ?stepz12) AllReadyH.nil
              case haz12 => (simp only [List.getElem?_toArray, List.getElem?_cons_succ, List.getElem?_cons_zero]; exact rfl)
              go_simp
              obtain ⟨y8, hy8⟩ : ∃ y8, y8 = World.alloc y7 (.cells #[r] 22) := ⟨_, rfl⟩
              rw [← hy8]
              have sb : Below (World.heap y7).size y7 y8 := by rw [hy8]; exact (Below.refl _ _).alloc (Nat.le_refl _) _
              have HY3 := Lib.hid hy8
              have FW := Lib.hid fs
              have RW := Lib.hid hr
              have BW3 := Lib.hid (show Below B0 w y7 from Below.trans HB.out (BEL.mono (by have := BL.out; have := HB.out.size; omega)))
              clear hy8
              clear hr
              replace fs := fs.below sb
              replace BEL := Below.chain BEL sb
              clear sb
              refine hK.out _ _ (trivial) (fun hHeld => ?_)
              clear hK K
              try simp only [Act.put, List.setIfInBounds_toArray, List.set_cons_zero, List.set_cons_succ]
              refine wpAnyH_ready (rs := [4]) (by kernel_rfl) (by simp) ?_
              refine' AllReadyH.cons (o := ?oiz11) ?haz11 (fun K hK => ?stepz11) AllReadyH.nil
              case haz11 => (simp only [List.getElem?_toArray, List.getElem?_cons_succ, List.getElem?_cons_zero]; exact rfl)

              rw [if_pos (by rfl)]
              refine step_pushRO (.tmp 13) (.tmp 16) HY3.out rfl rfl rfl FW.out.ro RW.out (by rw [dz_length, HE.out]; omega) (by have := FW.out.lts; omega) (by have := HLEN.out; omega) HAP.out HEA.out ?_
              intro v9 y9 ho9 hg9
              have s9 := ho9.rows.isSl
              have ko9 := FW.out.ko.grown hg9 (fun e => by have := (FW.out.ro.own.lt _ e).1; have := FW.out.lts; omega)
              refine hK.out _ _ (trivial) (fun hHeld => ?_)
              clear hK K
              try simp only [Act.put, List.setIfInBounds_toArray, List.set_cons_zero, List.set_cons_succ]
              refine wpAnyH_ready (rs := [5]) (by kernel_rfl) (by simp) ?_
              refine' AllReadyH.cons (o := ?oiz10) ?haz10 (fun K hK => ?stepz10) AllReadyH.nil
              case haz10 => (simp only [List.getElem?_toArray, List.getElem?_cons_succ, List.getElem?_cons_zero]; exact rfl)
              have f0 := ko9.free; have b0 := ko9.cell
              go_simp

              clear f0 b0
              refine hK.out _ _ (trivial) (fun hHeld => ?_)
              clear hK K
              try simp only [Act.put, List.setIfInBounds_toArray, List.set_cons_zero, List.set_cons_succ]
              refine wpAnyH_done (by kernel_rfl) ?_ _
              go_wp2_with fail
              have FN := FW.out.pushed ho9 hg9
              have hpl2 := HP.out
              have hsp := HSP.out
              rw [if_pos hpl2] at hsp
              have hspm : (fillR n (f + 1) E).map iz = [dz E] := by rw [hsp, List.map_cons, List.map_nil, HIZ.out]
              have bz : Below B0 w y9 := Below_of_grown BW3.out hg9 (by have := FW.out.lts; omega) (fun b hb => by have := (FW.out.ro.own.lt b hb).1; have := BL.out; omega)
              refine bodyPost_ret (v := .tuple #[]) (by simp [results, Try.results59, go_sem]) rfl ⟨rfl, ⟨v9, _, by rw [hspm]; exact FN⟩, bz.setCell (p := ⟨bo, 0, none⟩) (show B0 ≤ bo by have := BL.out; omega) _⟩
            case stepz17 =>
              go_simp
              obtain ⟨y10, hy10⟩ : ∃ y10, y10 = World.alloc y7 (.cells #[r] 22) := ⟨_, rfl⟩
              rw [← hy10]
              have sb : Below (World.heap y7).size y7 y10 := by rw [hy10]; exact (Below.refl _ _).alloc (Nat.le_refl _) _
              have HY3 := Lib.hid hy10
              have FW := Lib.hid fs
              have RW := Lib.hid hr
              have BW3 := Lib.hid (show Below B0 w y7 from Below.trans HB.out (BEL.mono (by have := BL.out; have := HB.out.size; omega)))
              clear hy10
              clear hr
              replace fs := fs.below sb
              replace BEL := Below.chain BEL sb
              clear sb
              refine hK.out _ _ (trivial) (fun hHeld => ?_)
              clear hK K
              try simp only [Act.put, List.setIfInBounds_toArray, List.set_cons_zero, List.set_cons_succ]
              refine wpAnyH_ready (rs := [0]) (by kernel_rfl) (by simp) ?_
              refine' AllReadyH.cons (o := ?oiz15) ?haz15 (fun K hK => ?stepz15) AllReadyH.nil
              case haz15 => (simp only [List.getElem?_toArray, List.getElem?_cons_zero]; exact rfl)
              have aa0 := fs.ko.cell
              go_simp

              clear aa0
              refine hK.out _ _ (trivial) (fun hHeld => ?_)
              clear hK K
              try simp only [Act.put, List.setIfInBounds_toArray, List.set_cons_zero, List.set_cons_succ]
              refine wpAnyH_ready (rs := [4]) (by kernel_rfl) (by simp) ?_
              refine' AllReadyH.cons (o := ?oiz14) ?haz14 (fun K hK => ?stepz14) AllReadyH.nil
              case haz14 => (simp only [List.getElem?_toArray, List.getElem?_cons_succ, List.getElem?_cons_zero]; exact rfl)

              rw [if_pos (by rfl)]
              refine step_pushRO (.tmp 13) (.tmp 16) HY3.out rfl rfl rfl FW.out.ro RW.out (by rw [dz_length, HE.out]; omega) (by have := FW.out.lts; omega) (by have := HLEN.out; omega) HAP.out HEA.out ?_
              intro v9 y9 ho9 hg9
              have s9 := ho9.rows.isSl
              have ko9 := FW.out.ko.grown hg9 (fun e => by have := (FW.out.ro.own.lt _ e).1; have := FW.out.lts; omega)
              refine hK.out _ _ (trivial) (fun hHeld => ?_)
              clear hK K
              try simp only [Act.put, List.setIfInBounds_toArray, List.set_cons_zero, List.set_cons_succ]
              refine wpAnyH_ready (rs := [5]) (by kernel_rfl) (by simp) ?_
              refine' AllReadyH.cons (o := ?oiz13) ?haz13 (fun K hK => ?stepz13) AllReadyH.nil
              case haz13 => (simp only [List.getElem?_toArray, List.getElem?_cons_succ, List.getElem?_cons_zero]; exact rfl)
              have f0 := ko9.free; have b0 := ko9.cell
              go_simp

              clear f0 b0
              refine hK.out _ _ (trivial) (fun hHeld => ?_)
              clear hK K
              try simp only [Act.put, List.setIfInBounds_toArray, List.set_cons_zero, List.set_cons_succ]
              refine wpAnyH_done (by kernel_rfl) ?_ _
              go_wp2_with fail
              have FN := FW.out.pushed ho9 hg9
              have hpl2 := HP.out
              have hsp := HSP.out
              rw [if_pos hpl2] at hsp
              have hspm : (fillR n (f + 1) E).map iz = [dz E] := by rw [hsp, List.map_cons, List.map_nil, HIZ.out]
              have bz : Below B0 w y9 := Below_of_grown BW3.out hg9 (by have := FW.out.lts; omega) (fun b hb => by have := (FW.out.ro.own.lt b hb).1; have := BL.out; omega)
              refine bodyPost_ret (v := .tuple #[]) (by simp [results, Try.results59, go_sem]) rfl ⟨rfl, ⟨v9, _, by rw [hspm]; exact FN⟩, bz.setCell (p := ⟨bo, 0, none⟩) (show B0 ≤ bo by have := BL.out; omega) _⟩
      | false =>
        rintro e wr ⟨rfl, hb⟩
        have FN := FSH.out.below hb
        have HB := hb.mono (show B0 ≤ w.heap.size by have := BL.out; omega)
        go_wp2_with fail
        have hsp := HSP.out
        rw [if_neg (by rw [hp]; decide)] at hsp
        refine bodyPost_ret (v := .tuple #[]) (by simp [results, Try.results59, go_sem]) rfl ⟨rfl, ⟨ov, vs, by rw [hsp, List.map_nil, List.append_nil]; exact FN⟩, HB⟩
    | some i =>
      obtain ⟨-, hiL, hi0, -⟩ := free0_some hfr
      rw [Nat.sub_zero] at hiL hi0
      have hix := idx_some hfr
      have hspec := fillR_next (n := n) (f := f) hfr
      have hiN : i < N2 := by omega
      have hTE : (fillT n f i E N2) = fillR n (f + 1) E := by rw [hspec]; unfold fillT; rw [hE, hN2]
      have HIX := Lib.hid hix; have HTE := Lib.hid hTE; have HIL := Lib.hid hiL; have HI0 := Lib.hid hi0; have HN2 := Lib.hid hN2
      clear hfr hix hspec hTE fs hE hle hlen hc bl hiL hi0 hN2
      go_enter Try.func59, Try.ntmps59
      go_wp2_with fail
      refine (index_calls dv (dz E) (-1) _ FSH.out.od.ints).mono ?_
      rw [HIX.out]
      rintro e w' ⟨rfl, rfl⟩
      go_wp2_with fail
      clear kd
      go_loopw [5] (fun s wr => ∃ (k : Nat) (ov' : Value) (vs' : List Value), i + 1 ≤ k ∧ k ≤ N2 ∧ s = .int .i64 k ∧ FS B0 B1 bd bn bo bf n dv ov' E vs' (xss ++ (fillT n f i E k).map iz) wr ∧ Below B0 w wr) (fun s _ => N2 - (intOf s).toNat)
      case atStart => exact ⟨i + 1, ov, vs, Nat.le_refl _, hiN, by go_num, by rw [fillT_start, List.map_nil, List.append_nil]; exact FSH.out, Below.refl _ _⟩
      case round =>
        obtain ⟨k, ov', vs', hk1, hk2, rfl, fs, hb⟩ := hrel
        have kd := fs.kd.cell
        by_cases hlt : k < N2
        · have hkE : k < E.length := by have := HE.out; have := HN2.out; omega
          have ck := fs.od.cell (k := k) (by rw [dz_length]; exact hkE)
          rw [nth_dz hkE] at ck
          have hsu := fillT_succ (n := n) (f := f) (E := E) hk1
          have hki : k ≠ i := by omega
          obtain ⟨z, hz⟩ : ∃ z, E.getD k 0 = z := ⟨_, rfl⟩
          rw [hz] at ck
          by_cases hz0 : z = 0
          · subst hz0
            have e1 : ((0 : Nat) : Int) - 1 = -1 := by omega
            rw [e1] at ck
            have hG : fillG n f i E k = fillR n f ((E.set i (k + 1)).set k (i + 1)) := by unfold fillG; rw [hz]; rfl
            rw [hG] at hsu
            have hmon := fillT_mono (n := n) (f := f) (i := i) (E := E) (k := k + 1) (by omega) (N2 - (k + 1))
            rw [show k + 1 + (N2 - (k + 1)) = N2 by omega, HTE.out, hsu, List.length_append] at hmon
            have hcn := count_two (E := E) (i := i) (k := k) (a := k + 1) (b := i + 1) HIL.out HI0.out hkE hz hki (by omega) (by omega)
            have hsl := set_le (i := i) (k := k) (a := k + 1) (b := i + 1) HLE.out (by have := HN2.out; omega) (by have := HN2.out; omega)
            have hbk := set_back (a := k + 1) (b := i + 1) HI0.out hz
            have fs1 := fs.setD HIL.out (k + 1) k (by omega)
            have fs2 := fs1.setD (i := k) (by rw [List.length_set]; exact hkE) (i + 1) i (by omega)
            have b2 := fs1.belowSet (fs.belowSet hb i (.int .i64 k)) k (.int .i64 i)
            have ci := fs.od.cell (k := i) (by rw [dz_length]; exact HIL.out)
            have fi := fs.od.frozen (k := i) (by rw [dz_length]; exact HIL.out)
            have kd1 := fs1.kd.cell
            have ck1 := fs1.od.cell (k := k) (by rw [dz_length, List.length_set]; exact hkE)
            have fk1 := fs1.od.frozen (k := k) (by rw [dz_length, List.length_set]; exact hkE)
            have HF2 := Lib.hid fs2; have HB2 := Lib.hid b2; have HSU := Lib.hid hsu; have HMO := Lib.hid hmon; have HCN := Lib.hid hcn; have HSL := Lib.hid hsl; have HBK := Lib.hid hbk; have HKE := Lib.hid hkE
            clear fs fs1 fs2 b2 hb hsu hmon hcn hsl hbk hz hG e1 hkE
            go_wp2_with fail
            go_region
            have F3 := HF2.out.below (Below.refl _ _).drew
            have B3 := Lib.hid HB2.out.drew
            have kf := F3.kf.cell
            unfold fnV at kf
            have FF3 := Lib.hid F3
            clear F3 HF2 HB2 ci fi ck ck1 kd kd1 fk1
            go_wp2_with fail
            refine (IH.out _ ov' vs' _ _ FF3.out (by rw [List.length_set, List.length_set]; exact HE.out) HSL.out (by have := HCN.out; have := HC.out; omega) (by have := HMO.out; have := HLEN.out; simp only [List.length_append, List.length_map]; omega)).mono ?_
            rintro e u ⟨rfl, ⟨ov2, vs2, fs⟩, hb⟩
            have BB := Below.trans B3.out hb
            clear kf hb B3 FF3
            have kd := fs.kd.cell
            have hli : i < ((E.set i (k + 1)).set k (i + 1)).length := by rw [List.length_set, List.length_set]; exact HIL.out
            have hlk : k < ((E.set i (k + 1)).set k (i + 1)).length := by rw [List.length_set, List.length_set]; exact HKE.out
            have fs1 := fs.setD hli 0 (-1) (by omega)
            have fs2 := fs1.setD (i := k) (by rw [List.length_set]; exact hlk) 0 (-1) (by omega)
            rw [HBK.out, List.append_assoc, ← List.map_append, ← HSU.out] at fs2
            have b2 := fs1.belowSet (fs.belowSet BB i (.int .i64 (-1))) k (.int .i64 (-1))
            have ci := fs.od.cell (k := i) (by rw [dz_length]; exact hli)
            have fi := fs.od.frozen (k := i) (by rw [dz_length]; exact hli)
            have kd1 := fs1.kd.cell
            have ck1 := fs1.od.cell (k := k) (by rw [dz_length, List.length_set]; exact hlk)
            have fk1 := fs1.od.frozen (k := k) (by rw [dz_length, List.length_set]; exact hlk)
            have HF2 := Lib.hid fs2; have HB2 := Lib.hid b2
            clear fs fs1 fs2 b2 BB HBK HSU HSL HMO HCN hli hlk
            go_wp2_with fail
            go_region
            go_wp2_with fail
            go_roundw
            case rel => exact ⟨k + 1, _, _, by omega, by omega, by go_num, HF2.out.below (Below.refl _ _).drew, HB2.out.drew⟩
            case measure => simp [intOf]; omega
          · have hG : fillG n f i E k = [] := by unfold fillG; rw [hz, if_neg (fun e => hz0 (Nat.eq_of_beq_eq_true e))]
            rw [hG, List.append_nil] at hsu
            have hnn : ¬ ((z : Int) - 1 < 0) := by omega
            have HF2 := Lib.hid fs; have HB2 := Lib.hid hb; have HSU := Lib.hid hsu
            clear fs hb hsu hz hG hkE
            go_wp2_with fail
            go_roundw
            case rel => exact ⟨k + 1, _, _, by omega, by omega, by go_num, by rw [HSU.out]; exact HF2.out, HB2.out⟩
            case measure => simp [intOf]; omega
        · obtain rfl : k = N2 := by omega
          rw [HTE.out] at fs
          have HF2 := Lib.hid fs; have HB2 := Lib.hid hb
          clear fs hb
          go_wp2_with fail
          exact bodyPost_end (v := .tuple #[]) (by simp [results, Try.results59, go_sem]) rfl ⟨rfl, ⟨_, _, HF2.out⟩, HB2.out⟩
end Go.Proofs.Ytplekfgadbjgdaa


/- slices.Delete of one number, where the slice need not begin at the head of its block (at most two numbers). -/
import Derived.Test.YtplekfgadbjgdaaQMatchingCounts0
import Derived.Test.YtplekfgadbjgdaaQMatchingCounts1
import Derived.Test.YtplekfgadbjgdaaQMatchingCounts10
import Derived.Test.YtplekfgadbjgdaaQMatchingCounts11
import Derived.Test.YtplekfgadbjgdaaQMatchingCounts12
import Derived.Test.YtplekfgadbjgdaaQMatchingCounts13
import Derived.Test.YtplekfgadbjgdaaQMatchingCounts14
import Derived.Test.YtplekfgadbjgdaaQMatchingCounts15
import Derived.Test.YtplekfgadbjgdaaQMatchingCounts16
import Derived.Test.YtplekfgadbjgdaaQMatchingCounts18
import Derived.Deep.RegionLaw
namespace Go.Proofs.Ytplekfgadbjgdaa
open Go.RowKit Go.Sl

theorem OwnG.vblk_head {w : World} {B : Nat} {e : TypeId} {v : Value} {cs : List Value} (h : OwnG w B e v cs) {k : Nat} (_hk : k ≤ vcap v) (h0 : 0 < vcap v) : vblk (vcut v 0 k (vcap v) 1) = vblk v ∧ voff (vcut v 0 k (vcap v) 1) = voff v := by
  have h1 := vat_cut h.isSl (l := 0) (h := k) (m := vcap v) (s := 1) 0 (by omega) (Nat.le_refl _)
  refine ⟨?_, ?_⟩
  · have := congrArg Addr.block h1; rwa [vat_block, vat_block] at this
  · have := congrArg Addr.off h1; simpa [vat] using this
theorem run_shiftG (w : World) (B : Nat) (ty : TypeId) {v : Value} {xs : List Int} {k : Nat} (h : OwnGI w B v xs) (hk : k < xs.length) (h2 : xs.length ≤ 2) :
    ∃ v1 w1, (Builtin.append_ #[22, 22] ty #[vcut v 0 k (vcap v) 1, vcut v (k + 1) xs.length (vcap v) 1]).run Try.prog w = .ok v1 w1 ∧ OwnGI w1 B v1 (xs.eraseIdx k) ∧ w.grownBy w1 (row v) ∧ row v1 = row v ∧
      vcap v1 = vcap v ∧ vlen v1 = xs.length - 1 ∧ (∃ u, w1.cell? (vat v1 (xs.length - 1)) = some u) ∧ w1.frozen? (vat v1 (xs.length - 1)) = false := by
  obtain ⟨i, hi, hz0, hz1, hz2⟩ := info_parts info_int
  have hl := h.len
  have hlc := h.cap
  have h0 : 0 < vcap v := by omega
  have hrow : row v = some (vblk v) := row_some h0
  have key : ∀ (w1 : World) (ys : List Int), OwnGI w1 B v ys → ys.length = xs.length → ys.take (xs.length - 1) = xs.eraseIdx k → w.grownBy w1 (row v) →
      (Builtin.append_ #[22, 22] ty #[vcut v 0 k (vcap v) 1, vcut v (k + 1) xs.length (vcap v) 1]).run Try.prog w = .ok (vcut v 0 (xs.length - 1) (vcap v) 1) w1 →
      ∃ v1 w1, (Builtin.append_ #[22, 22] ty #[vcut v 0 k (vcap v) 1, vcut v (k + 1) xs.length (vcap v) 1]).run Try.prog w = .ok v1 w1 ∧ OwnGI w1 B v1 (xs.eraseIdx k) ∧ w.grownBy w1 (row v) ∧ row v1 = row v ∧
        vcap v1 = vcap v ∧ vlen v1 = xs.length - 1 ∧ (∃ u, w1.cell? (vat v1 (xs.length - 1)) = some u) ∧ w1.frozen? (vat v1 (xs.length - 1)) = false := by
    intro w1 ys hys hyl hyt hg hr
    have hh := hys.head (k := xs.length - 1) (by omega)
    rw [hyt] at hh
    obtain ⟨e1, e2⟩ := OwnG.vblk_head hys (k := xs.length - 1) (by omega) h0
    have e3 : vat (vcut v 0 (xs.length - 1) (vcap v) 1) (xs.length - 1) = vat v (xs.length - 1) := by unfold vat; rw [e1, e2]
    refine ⟨_, w1, hr, hh, hg, ?_, by rw [vcap_cut]; omega, by rw [vlen_cut]; omega, ?_, ?_⟩
    · rw [hrow, row_some (by rw [vcap_cut]; omega), e1]
    · rw [e3]; exact ⟨_, hys.cell (by omega)⟩
    · rw [e3]; exact OwnG.frozen hys (by omega)
  obtain ⟨a, n, c, hv, hn, hc, ha⟩ := h.isSl.cases
  have hvc : vcap v = c := by rw [hv]; rfl
  have hvn : vlen v = n := by rw [hv]; rfl
  obtain ⟨g, o, hao⟩ := ha (by omega)
  subst hao
  have hnl : n = xs.length := by omega
  have c0 : ∀ k, vcut v 0 k c 1 = .slice (some ⟨g, o, none⟩) k c := fun k => by
    rw [hv]
    have : ¬ c = 0 := by omega
    simp [vcut, this, Addr.add_lit]
  have hvat : ∀ j, vat v j = ⟨g, o + j, none⟩ := fun j => by rw [hv, vat_mk]
  rw [hvc] at key ⊢
  by_cases hlast : k + 1 = xs.length
  · refine key w xs h rfl (by rw [List.eraseIdx_eq_take_drop_succ, hlast]; simp [show k = xs.length - 1 by omega]) ⟨rfl, rfl, rfl, Nat.le_refl _, fun _ _ _ => rfl⟩ ?_
    obtain ⟨ad, had⟩ : ∃ ad c2, vcut v (k + 1) xs.length c 1 = .slice (some ad) 0 c2 := by
      rw [hv, hlast]
      by_cases hck : c = xs.length
      · exact ⟨⟨g, o, none⟩, 0, by simp [vcut, hck]⟩
      · exact ⟨⟨g, o + xs.length, none⟩, c - xs.length, by simp [vcut, hck, Addr.add_lit]⟩
    obtain ⟨c2, had⟩ := had
    rw [c0, c0, had]
    have hr := run_append_room_cells (P := Try.prog) w 22 ty 3 i Try.underlying22 hi g o k c ad 0 c2 [] (by simp) (by simp) (by simp) (by omega) (by simp) (by simp)
    rw [hr, show xs.length - 1 = k by omega]; rfl
  · obtain ⟨x0, x1, rfl⟩ : ∃ x0 x1, xs = [x0, x1] := by
      match xs, h2, hk, hlast with
      | [x0, x1], _, _, _ => exact ⟨x0, x1, rfl⟩
      | [x0], _, hk, hl => simp at hk hl; omega
    have hk0 : k = 0 := by simp at hk hlast; omega
    subst hk0
    have hset := OwnG.set h (j := 0) (by simp) (.int .i64 x1)
    have hset2 : OwnGI (w.setCell (vat v 0) (.int .i64 x1)) B v [x1, x1] := hset
    refine key _ [x1, x1] hset2 rfl rfl ⟨rfl, rfl, rfl, by simp, fun j _ hj => Below.heap_setCell w _ _ j (fun e => hj (by rw [hrow, vat_block] at *; rw [e]))⟩ ?_
    obtain ⟨c2, had⟩ : ∃ c2, vcut v (0 + 1) [x0, x1].length c 1 = .slice (some ⟨g, o + 1, none⟩) 1 c2 := by
      have : ¬ c = 1 := by have : n = 2 := hnl; omega
      rw [hv]
      exact ⟨c - 1, by simp [vcut, this, Addr.add_lit]⟩
    rw [c0, c0, had, hvat]
    have hx1 : w.cell? ⟨g, o + 1, none⟩ = some (.int .i64 x1) := by have := h.cell (k := 1) (by simp); rwa [hvat] at this
    have hx0 : w.cell? ⟨g, o, none⟩ = some (.int .i64 x0) := by have := h.cell (k := 0) (by simp); rwa [hvat] at this
    have hf0 : w.frozen? ⟨g, o, none⟩ = false := by have := OwnG.frozen h (j := 0) h0; rwa [hvat] at this
    have hr := run_append_room_cells (P := Try.prog) w 22 ty 3 i Try.underlying22 hi g o 0 c ⟨g, o + 1, none⟩ 1 c2 [.int .i64 x1] (by rw [hz1]; rfl)
      (by intro j u hu; cases j with
        | zero => simp at hu; rw [← hu, Addr.add_lit]; simpa using hx1
        | succ j => simp at hu)
      (by intro u hu; simp at hu; subst hu; rfl) (by have : n = 2 := hnl; omega)
      (by intro j hj; have : j = 0 := by simpa using hj
          subst this; rw [hz1]; simp only [Nat.zero_mul, Nat.add_zero]; rw [hx0]; rfl)
      (by intro j hj; have : j = 0 := by simpa using hj
          subst this; rw [hz1]; simp only [Nat.zero_mul, Nat.add_zero]; exact hf0)
    rw [hr, hz1]; rfl

theorem step_shiftG {w : World} {ops : Array Oper} {o : Oper} {a : Act} {K : Act → World → Prop} {Q : Exit → Act → World → Prop} {E : Prop} (hgd : o.guard = none) (s x : Operand)
    (ho : o.op = .call { callee := .builtin .append, args := #[s, x], argTypes := #[22, 22] })
    {B : Nat} {v : Value} {xs : List Int} {k : Nat} (hs : a.eval s = vcut v 0 k (vcap v) 1) (hx : a.eval x = vcut v (k + 1) xs.length (vcap v) 1) (hown : OwnGI w B v xs) (hk : k < xs.length) (h2 : xs.length ≤ 2)
    (hK : ∀ v1 w1, OwnGI w1 B v1 (xs.eraseIdx k) → w.grownBy w1 (row v) → row v1 = row v → vcap v1 = vcap v → vlen v1 = xs.length - 1 → (∃ u, w1.cell? (vat v1 (xs.length - 1)) = some u) → w1.frozen? (vat v1 (xs.length - 1)) = false → K (a.put o.dst v1) w1) :
    if Region.wanted o (yielded ops a.tmps) = true then Oper.wp Try.prog o a w K Q else E := by
  have hw : Region.wanted o (yielded ops a.tmps) = true := by simp [Region.wanted, hgd]
  rw [if_pos hw]
  obtain ⟨v1, w1, hr, h1, h3, h4, h5, h6, h7, h8⟩ := run_shiftG w B o.type hown hk h2
  unfold Oper.wp execOp
  simp only [ho, resolve, invoke, builtin, Sem.run_bind, Sem.run_pure, Result.andThen_ok, List.map_toArray, List.map_cons, List.map_nil, hs, hx, hr]
  exact hK v1 w1 h1 h3 h4 h5 h6 h7 h8

/-- clear(s) of the one cell behind the slice's end. -/
theorem run_clear1G {w : World} (ty : TypeId) {v : Value} {n m c : Nat} (hown : IsSl v) (hm : m = n + 1) (hc : vcap v = c) (hcap : n < c)
    (hcell : ∃ u, w.cell? (vat v n) = some u) (hfr : w.frozen? (vat v n) = false) :
    (Builtin.clear_ #[22] ty #[vcut v n m c 1]).run Try.prog w = .ok (.tuple #[]) (w.setCell (vat v n) (.int .i64 0)) := by
  subst hm hc
  obtain ⟨i, hi, hz0, hz1, hz2⟩ := info_parts info_int
  obtain ⟨a', m, c, rfl, hm, hc, ha⟩ := hown.cases
  rw [vcap_mk] at hcap
  obtain ⟨g, o', rfl⟩ := ha (by omega)
  have hcut : vcut (.slice (some ⟨g, o', none⟩) m c) n (n + 1) (vcap (.slice (some ⟨g, o', none⟩) m c)) 1 = .slice (some ⟨g, o' + n, none⟩) 1 (c - n) := by
    have hne : ¬ c = n := by omega
    simp [vcut, hne, Addr.add_lit]
  rw [vat_mk] at hcell hfr ⊢
  have hr := Lib.run_clear_slice (P := Try.prog) w 22 3 ty (.int .i64 0) Try.underlying22 (fun w => by simp [zeroValue, typeInfo, hi, hz0]) rfl rfl g (o' + n) 1 (c - n) (by omega)
    (by intro j hj; obtain ⟨u, hu⟩ := hcell; rw [show o' + n + j = o' + n from by omega, hu]; rfl)
    (by intro j hj; rw [show o' + n + j = o' + n from by omega]; exact hfr)
  rw [hcut, hr]
  rfl
theorem ownGI_behind {w : World} {B : Nat} {v : Value} {xs : List Int} (h : OwnGI w B v xs) {j : Nat} (hj : xs.length ≤ j) (u : Value) : OwnGI (w.setCell (vat v j) u) B v xs := by
  refine ⟨h.1, h.2.1, fun h0 => ?_⟩
  obtain ⟨hB, cur, hh, hs, hc⟩ := h.2.2 h0
  refine ⟨hB, cur.setIfInBounds (voff v + j) u, ?_, by simpa using hs, fun i hi => ?_⟩
  · simp [World.setCell, vat, Array.getElem?_modify, hh]
  · rw [List.length_map] at hi
    rw [Array.getElem?_setIfInBounds_ne (by omega)]; exact hc i (by simpa using hi)

set_option maxHeartbeats 4000000 in
set_option maxRecDepth 100000 in
theorem deleteG_calls (v : Value) (xs : List Int) (k B : Nat) (w : World) (h : OwnGI w B v xs) (hk : k < xs.length) (h2 : xs.length ≤ 2) :
    Calls Try.prog 160 #[v, .int .i64 k, .int .i64 ((k : Int) + 1)] w fun e w' => ∃ v', e = .returned v' ∧ OwnGI w' B v' (xs.eraseIdx k) ∧ w.grownBy w' (row v) ∧ row v' = row v := by
  have sv := h.isSl
  have lv := h.len
  have hcap := h.cap
  have hk2 : k ≤ vcap v := by omega
  have hk3 : (0 : Int) ≤ (k : Int) + 1 := by omega
  have hk4 : (k : Int) + 1 ≤ xs.length := by omega
  have i63 := sv.i63
  have hle : (xs.eraseIdx k).length = xs.length - 1 := by simp [List.length_eraseIdx, hk]
  obtain ⟨ne, hne⟩ : ∃ ne : Nat, ne = xs.length - 1 := ⟨_, rfl⟩
  have HO := Lib.hid h; clear h
  go_enter Try.func160, Try.ntmps160
  go_wp2_with fail
  go_region_law (first
    | (refine step_shiftG (B := B) (v := v) (xs := xs) (k := k) rfl (.tmp 22) (.tmp 25) rfl rfl rfl (HO.out.below (Below.drew (Below.refl _ _))) hk h2 ?_; intro v1 w1 ho1 hg1 hr1 hc1 lo1 hx1 hf1))
  have so := ho1.isSl
  rw [← hne] at lo1
  have hxl : xs.length = ne + 1 := by omega
  rw [← hne] at hx1 hf1
  have e1 : ne < vcap v1 := by omega
  have hg2 : w.grownBy w1 (row v) := ⟨hg1.os, hg1.tape, hg1.output, hg1.size, hg1.block⟩
  have hpr : row v = some (vat v1 ne).block := by rw [← hr1, row_some (by omega)]; rfl
  have q1 : ne ≤ xs.length := by omega
  have q2 : xs.length ≤ vcap v1 := by omega
  have h3 : (xs.eraseIdx k).length ≤ ne := by omega
  have HX := Lib.hid hxl; clear hxl hne hle
  have e2 : ne < vcap v := by omega
  have hcl := run_clear1G 0 so HX.out hc1 e2 hx1 hf1
  have ho2 := ownGI_behind ho1 (j := ne) h3 (.int .i64 0)
  have HO2 := Lib.hid ho2; clear ho2
  clear hx1 hf1
  go_wp2_with fail
  go_ret
  exact ⟨v1, rfl, HO2.out, grown_setCell hg2 hpr _, hr1⟩

end Go.Proofs.Ytplekfgadbjgdaa


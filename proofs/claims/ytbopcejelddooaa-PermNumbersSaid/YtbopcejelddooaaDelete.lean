/- slices.Delete of one number, Clip, Compare; perm.Identity and Unrank, walked. -/
import Derived.Test.YtbopcejelddooaaPerm
import Derived.Test.YtbopcejelddooaaRankLaw
import Derived.Lib.SliceRun
namespace Go.Proofs.Ytbopcejelddooaa
open Go.RowKit Go.Sl

/-- The elements behind place k are moved down by one, within the slice's own block. -/
theorem run_shift (w : World) (B : Nat) (ty : TypeId) {v : Value} {xs : List Int} {k : Nat} (h : OwnI w B v xs) (hk : k < xs.length) :
    ∃ v1 w1, (Builtin.append_ #[22, 22] ty #[vcut v 0 k (vcap v) 1, vcut v (k + 1) xs.length (vcap v) 1]).run Try.prog w = .ok v1 w1 ∧ OwnI w1 B v1 (xs.eraseIdx k) ∧ w.grownBy w1 (row v) ∧ row v1 = row v ∧
      vcap v1 = vcap v ∧ (∃ u, w1.cell? (vat v1 (xs.length - 1)) = some u) ∧ w1.frozen? (vat v1 (xs.length - 1)) = false := by
  obtain ⟨i, hi, hz0, hz1, hz2⟩ := info_parts info_int
  have hl := h.len
  have hlc := h.ints.cap
  have h0 : 0 < vcap v := by omega
  obtain ⟨hB, ho', cur, hg, hcs, htake⟩ := h.2.2 h0
  obtain ⟨a, n, c, rfl, hn, hc, ha⟩ := h.isSl.cases
  have hnl : xs.length = n := by simpa [vlen_mk] using hl.symm
  have hcc : n ≤ c := hn
  obtain ⟨g, o, rfl⟩ := ha h0
  have ho'' : o = 0 := ho'
  subst ho''
  rw [vblk_mk] at hB hg
  clear hl
  subst hnl
  rw [vcap_mk] at h0 hcs
  simp only [vcap_mk]
  have hc1 : vcut (.slice (some ⟨g, 0, none⟩) xs.length c) 0 k c 1 = .slice (some ⟨g, 0, none⟩) k c := by simp [vcut, Addr.add_lit]
  obtain ⟨ad, had, hnews⟩ : ∃ ad, vcut (.slice (some ⟨g, 0, none⟩) xs.length c) (k + 1) xs.length c 1 = .slice (some ad) (xs.length - (k + 1)) (c - (k + 1)) ∧
      ∀ j u, ((xs.drop (k + 1)).map (Value.int .i64))[j]? = some u → w.cell? (ad.add j) = some u := by
    by_cases hck : c = k + 1
    · refine ⟨⟨g, 0, none⟩, by simp [vcut, hck], fun j u hu => ?_⟩
      have : xs.drop (k + 1) = [] := List.drop_eq_nil_of_le (by omega)
      rw [this] at hu; simp at hu
    · refine ⟨⟨g, k + 1, none⟩, by simp [vcut, hck, Addr.add_lit], fun j u hu => ?_⟩
      have h1 := h.ints.2.2 (k + 1 + j) u
      rw [vat_mk] at h1
      rw [Addr.add_lit]
      rw [List.map_drop, List.getElem?_drop] at hu
      have := h1 hu
      rwa [Nat.zero_add] at this
  rw [hc1, had]
  have hm1 : ((xs.drop (k + 1)).map (Value.int .i64)).length = (xs.length - (k + 1)) * i.size := by rw [hz1]; simp
  simp only [List.length_map, Nat.mul_one] at htake hcs
  have hr := run_append_room (P := Try.prog) w 22 ty 3 i Try.underlying22 hi g k c cur hg ad (xs.length - (k + 1)) (c - (k + 1)) _ hm1 hnews
    (by intro u hu; obtain ⟨_, _, rfl⟩ := List.mem_map.1 hu; rfl) (by omega) (by rw [hz1]; simp; omega)
  have hsum : k + (xs.length - (k + 1)) = xs.length - 1 := by omega
  rw [hz1, Nat.mul_one, hsum] at hr
  have hrow := setRow_heap w g cur (cur.toList.take k ++ (xs.drop (k + 1)).map (Value.int .i64) ++ cur.toList.drop (k + ((xs.drop (k + 1)).map (Value.int .i64)).length)).toArray 3 (0, 0) hg
  have hsz : (cur.toList.take k ++ (xs.drop (k + 1)).map (Value.int .i64) ++ cur.toList.drop (k + ((xs.drop (k + 1)).map (Value.int .i64)).length)).toArray.size = cur.size := by
    simp only [List.size_toArray, List.length_append, List.length_take, List.length_drop, Array.length_toList, List.length_map]; omega
  have htk : cur.toList.take k = (xs.take k).map (Value.int .i64) := by
    rw [List.map_take, ← htake, List.take_take, show min k xs.length = k from by omega]
  refine ⟨_, _, hr, ⟨isSl_mk _ _ _ _ (by omega) hc, by simp [List.length_eraseIdx, hk], fun _ => ⟨hB, rfl, _, hrow, ?_, ?_⟩⟩, ⟨rfl, rfl, rfl, by simp, fun j _ hj => setRow_other w g j _ (fun e => hj (by rw [row_some (v := .slice (some ⟨g, 0, none⟩) xs.length c) h0, vblk_mk, e]))⟩, ?_, rfl, ?_, ?_⟩
  · rw [hsz]; simp only [vcap_mk]; omega
  · rw [htk, ← List.map_append, eraseIdx_eq]
    exact List.take_left
  · rw [row_some (v := .slice (some ⟨g, 0, none⟩) (xs.length - 1) c) h0, row_some (v := .slice (some ⟨g, 0, none⟩) xs.length c) h0]; rfl
  · rw [vat_mk, Nat.zero_add, cell_of_row _ g (xs.length - 1) _ _ (0, 0) hrow]
    exact ⟨_, Array.getElem?_eq_getElem (by rw [hsz]; omega)⟩
  · rw [vat_mk]; exact Go.Lib.frozen_of_heap hrow _

theorem Own.setBeyond {w : World} {B : Nat} {e : TypeId} {s : Nat} {v : Value} {cs : List Value} (h : Own w B e s v cs) {j : Nat} (hj : cs.length ≤ j) (u : Value) : Own (w.setCell (vat v j) u) B e s v cs := by
  refine ⟨h.1, h.2.1, fun h0 => ?_⟩
  obtain ⟨hB, ho, cur, hh, hc, ht⟩ := h.2.2 h0
  refine ⟨hB, ho, cur.setIfInBounds j u, ?_, by simpa using hc, ?_⟩
  · simp [World.setCell, vat, Array.getElem?_modify, hh, ho]
  · rw [Array.toList_setIfInBounds, List.take_set, ht, List.set_eq_of_length_le hj]

theorem step_shift {w : World} {ops : Array Oper} {o : Oper} {a : Act} {K : Act → World → Prop} {Q : Exit → Act → World → Prop} {E : Prop} (hgd : o.guard = none) (s x : Operand)
    (ho : o.op = .call { callee := .builtin .append, args := #[s, x], argTypes := #[22, 22] })
    {B : Nat} {v : Value} {xs : List Int} {k : Nat} (hs : a.eval s = vcut v 0 k (vcap v) 1) (hx : a.eval x = vcut v (k + 1) xs.length (vcap v) 1) (hown : OwnI w B v xs) (hk : k < xs.length)
    (hK : ∀ v1 w1, OwnI w1 B v1 (xs.eraseIdx k) → w.grownBy w1 (row v) → row v1 = row v → vcap v1 = vcap v → (∃ u, w1.cell? (vat v1 (xs.length - 1)) = some u) → w1.frozen? (vat v1 (xs.length - 1)) = false → K (a.put o.dst v1) w1) :
    if Region.wanted o (yielded ops a.tmps) = true then Oper.wp Try.prog o a w K Q else E := by
  have hw : Region.wanted o (yielded ops a.tmps) = true := by simp [Region.wanted, hgd]
  rw [if_pos hw]
  obtain ⟨v1, w1, hr, h1, h2, h3, h4, h5, h6⟩ := run_shift w B o.type hown hk
  unfold Oper.wp execOp
  simp only [ho, resolve, invoke, builtin, Sem.run_bind, Sem.run_pure, Result.andThen_ok, List.map_toArray, List.map_cons, List.map_nil, hs, hx, hr]
  exact hK v1 w1 h1 h2 h3 h4 h5 h6

/-- clear(s) of the one cell behind the slice's end. -/
theorem run_clear1 {w : World} (ty : TypeId) {B : Nat} {v : Value} {xs : List Int} {n m c : Nat} (hown : OwnI w B v xs) (hm : m = n + 1) (hc : vcap v = c) (hcap : n < c)
    (hcell : ∃ u, w.cell? (vat v n) = some u) (hfr : w.frozen? (vat v n) = false) :
    (Builtin.clear_ #[22] ty #[vcut v n m c 1]).run Try.prog w = .ok (.tuple #[]) (w.setCell (vat v n) (.int .i64 0)) := by
  subst hm hc
  obtain ⟨i, hi, hz0, hz1, hz2⟩ := info_parts info_int
  obtain ⟨hB, ho', cur, hg, hcs, htake⟩ := hown.2.2 (by omega)
  obtain ⟨a', m, c, rfl, hm, hc, ha⟩ := hown.isSl.cases
  rw [vcap_mk] at hcap
  obtain ⟨g, o', rfl⟩ := ha (by omega)
  have ho'' : o' = 0 := ho'
  subst ho''
  have hcut : vcut (.slice (some ⟨g, 0, none⟩) m c) n (n + 1) (vcap (.slice (some ⟨g, 0, none⟩) m c)) 1 = .slice (some ⟨g, n, none⟩) 1 (c - n) := by
    have hne : ¬ c = n := by omega
    simp [vcut, hne, Addr.add_lit]
  rw [vat_mk, Nat.zero_add] at hcell hfr ⊢
  have hr := Lib.run_clear_slice (P := Try.prog) w 22 3 ty (.int .i64 0) Try.underlying22 (fun w => by simp [zeroValue, typeInfo, hi, hz0]) rfl rfl g n 1 (c - n) (by omega)
    (by intro j hj; obtain ⟨u, hu⟩ := hcell; rw [show n + j = n from by omega, hu]; rfl)
    (by intro j hj; rw [show n + j = n from by omega]; exact hfr)
  rw [hcut, hr]
  rfl

theorem grown_setCell {w w1 : World} {r : Option Nat} (h : w.grownBy w1 r) {p : Addr} (hp : r = some p.block) (u : Value) : w.grownBy (w1.setCell p u) r :=
  ⟨h.os, h.tape, h.output, by simpa using h.size, fun k hk hr => (Below.heap_setCell w1 p u k (fun e => hr (by rw [hp, e]))).trans (h.block k hk hr)⟩

set_option maxHeartbeats 4000000 in
set_option maxRecDepth 100000 in
theorem delete_calls (v : Value) (xs : List Int) (k B : Nat) (w : World) (h : OwnI w B v xs) (hk : k < xs.length) (hl : xs.length ≤ 1000) :
    Calls Try.prog 82 #[v, .int .i64 k, .int .i64 ((k : Int) + 1)] w fun e w' => ∃ v', e = .returned v' ∧ OwnI w' B v' (xs.eraseIdx k) ∧ w.grownBy w' (row v) ∧ row v' = row v := by
  have sv := h.isSl
  have lv := h.len
  have hcap := h.ints.cap
  have hk2 : k ≤ vcap v := by omega
  have hk3 : (0 : Int) ≤ (k : Int) + 1 := by omega
  have hk4 : (k : Int) + 1 ≤ xs.length := by omega
  have i63 := sv.i63
  have hle : (xs.eraseIdx k).length = xs.length - 1 := by simp [List.length_eraseIdx, hk]
  obtain ⟨ne, hne⟩ : ∃ ne : Nat, ne = xs.length - 1 := ⟨_, rfl⟩
  have HO := Lib.hid h; clear h
  go_enter Try.func82, Try.ntmps82
  go_wp2_with fail
  go_region_law (first
    | (refine step_shift (B := B) (v := v) (xs := xs) (k := k) rfl (.tmp 22) (.tmp 25) rfl rfl rfl (HO.out.below (Below.drew (Below.refl _ _))) hk ?_; intro v1 w1 ho1 hg1 hr1 hc1 hx1 hf1))
  have so := ho1.isSl
  have lo := ho1.len
  rw [hle, ← hne] at lo
  have hxl : xs.length = ne + 1 := by omega
  rw [← hne] at hx1 hf1
  have e1 : ne < vcap v1 := by omega
  have hg2 : w.grownBy w1 (row v) := ⟨hg1.os, hg1.tape, hg1.output, hg1.size, hg1.block⟩
  have hpr : row v = some (vat v1 ne).block := by rw [← hr1, row_some (by omega)]; rfl
  have q1 : ne ≤ xs.length := by omega
  have q2 : xs.length ≤ vcap v1 := by omega
  have h3 : (xs.eraseIdx k).length ≤ ne := by omega
  have HX := Lib.hid hxl; clear hxl hne hle
  have e2 : ne < vcap v := by omega
  have hcl := run_clear1 0 ho1 HX.out hc1 e2 hx1 hf1
  have ho2 := Own.setBeyond ho1 (j := ne) (by simpa using h3) (.int .i64 0)
  have HO2 := Lib.hid ho2; clear ho2
  clear hx1 hf1
  go_wp2_with fail
  go_ret
  exact ⟨v1, rfl, HO2.out, grown_setCell hg2 hpr _, hr1⟩

end Go.Proofs.Ytbopcejelddooaa

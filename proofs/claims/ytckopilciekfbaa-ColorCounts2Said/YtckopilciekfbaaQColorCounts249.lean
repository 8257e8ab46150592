/- The builtin copy between slices of ints, the target the call's own. -/
import Derived.Test.YtckopilciekfbaaQColorCounts20
import Derived.Test.YtckopilciekfbaaQColorCounts21
import Derived.Test.YtckopilciekfbaaQColorCounts22
import Derived.Laws.CopyOwn
namespace Go.Proofs.Ytckopilciekfbaa
open Go.RowKit Go.Sl

theorem splice_own {T : List Value} {Z cs : List Value} {j : Nat} (hT : T.take Z.length = Z) (hl : Z.length ≤ T.length) (hj : j + cs.length ≤ Z.length) : (T.take j ++ (cs ++ T.drop (j + cs.length))).take Z.length = Z.take j ++ cs ++ Z.drop (j + cs.length) ∧ (T.take j ++ (cs ++ T.drop (j + cs.length))).length = T.length := by
  obtain ⟨R, hR⟩ : ∃ R, T = Z ++ R := ⟨T.drop Z.length, by conv => lhs; rw [← List.take_append_drop Z.length T, hT]⟩
  subst hR
  have e1 : (Z ++ R).take j = Z.take j := List.take_append_of_le_length (by omega)
  have e2 : (Z ++ R).drop (j + cs.length) = Z.drop (j + cs.length) ++ R := List.drop_append_of_le_length hj
  rw [e1, e2]
  refine ⟨?_, by simp; omega⟩
  rw [show Z.take j ++ (cs ++ (Z.drop (j + cs.length) ++ R)) = (Z.take j ++ cs ++ Z.drop (j + cs.length)) ++ R by simp]
  have hlen : (Z.take j ++ cs ++ Z.drop (j + cs.length)).length = Z.length := by simp; omega
  rw [← hlen, List.take_left]

theorem run_copyI {w : World} {B : Nat} {u dv v : Value} {zs ys : List Int} (j k : Nat) (hown : OwnI w B u zs) (hy : Ints w v ys) (hsl : IsSl dv) (hdl : vlen dv = zs.length - j) (hj : j ≤ zs.length) (hk : k = min ys.length (zs.length - j)) (hat : 0 < k → vat dv 0 = vat u j) :
    ∃ w', (Builtin.copy_ #[22, 22] 3 #[dv, v]).run Try.prog w = .ok (.int .i64 k) w' ∧ OwnI w' B u (zs.take j ++ ys.take k ++ zs.drop (j + k)) ∧ Below B w w' := by
  obtain ⟨i, hi, hz0, hz1, hz2⟩ := info_parts info_int
  have hsz : (Try.prog.info? 3).map (·.size) = some 1 := by rw [hi]; exact congrArg some hz1
  have hyl := hy.len
  obtain ⟨da, dn, dc, rfl, -, -, hda⟩ := hsl.cases
  obtain ⟨sa, sn, sc, rfl, hsn, hsc, hsa⟩ := hy.isSl.cases
  rw [vlen_mk] at hdl hyl
  rcases Nat.eq_zero_or_pos k with h0 | h0
  · subst h0
    refine ⟨w, run_copy_none (P := Try.prog) w 22 22 3 3 da sa dn dc sn sc Try.underlying22 hsz (by rw [hyl, hdl]; exact hk.symm), ?_, Below.refl _ _⟩
    have e : zs.take j ++ ys.take 0 ++ zs.drop (j + 0) = zs := by simp
    rw [e]; exact hown
  · have hzl : j < zs.length := by omega
    have hcap := hown.ints.cap
    obtain ⟨hB, hvo, cur, hg, hcs, htake⟩ := hown.2.2 (by omega)
    have hsz' : vcap u ≤ cur.size := by simpa using hcs
    have hcell := hat h0
    have hdcap : 0 < dc := by
      have := hsl.le
      rw [vlen_mk, vcap_mk] at this
      omega
    obtain ⟨dg, dof, rfl⟩ := hda hdcap
    have hyc : 0 < sc := by omega
    obtain ⟨sg, sof, rfl⟩ := hsa hyc
    have e1 : dg = vblk u := congrArg Addr.block hcell
    have e2 : dof + 0 = voff u + j := congrArg Addr.off hcell
    have e3 : j = dof := by omega
    subst e1
    subst e3
    have hlen : ((ys.take k).map (Value.int .i64)).length = k := by simp; omega
    have hmap : (zs.map (Value.int .i64)).length = zs.length := by simp
    have hT : cur.toList.take (zs.map (Value.int .i64)).length = zs.map (Value.int .i64) := htake
    have hsp := splice_own (T := cur.toList) (cs := (ys.take k).map (Value.int .i64)) (j := j) hT (by rw [hmap]; simp; omega) (by rw [hlen, hmap]; omega)
    have hcc := run_copy_row (P := Try.prog) w 22 22 3 3 (vblk u) j dn dc ⟨sg, sof, none⟩ sn sc cur 3 ((ys.take k).map (Value.int .i64)) Try.underlying22 hsz hg (by rw [hlen, hyl, hdl]; exact hk)
      (fun t x ht => by
        have h1 : (ys.map (Value.int .i64))[t]? = some x := by
          rw [List.getElem?_map] at ht ⊢
          rw [List.getElem?_take] at ht
          split at ht
          · exact ht
          · simp at ht
        have := hy.2.2 t x h1
        rw [Addr.add_lit]
        exact this)
      (by rw [hlen]; omega) (fun x hx => by
        obtain ⟨y, _, rfl⟩ := List.mem_map.1 hx
        rfl)
    rw [hlen] at hsp hcc
    rw [List.append_assoc] at hcc
    refine ⟨_, hcc, ?_, below_setRow (Below.refl _ _) hB _⟩
    have hnew : (zs.take j ++ ys.take k ++ zs.drop (j + k)).map (Value.int .i64) = (zs.map (Value.int .i64)).take j ++ (ys.take k).map (Value.int .i64) ++ (zs.map (Value.int .i64)).drop (j + k) := by simp
    refine ⟨hown.1, ?_, fun _ => ⟨hB, hvo, _, setRow_heap w _ _ _ _ _ hg, ?_, ?_⟩⟩
    · have := hown.2.1
      rw [hnew]
      simp at this ⊢
      omega
    · rw [List.size_toArray, hsp.2, Array.length_toList]; exact hcs
    · rw [hnew]
      have hl2 : ((zs.map (Value.int .i64)).take j ++ (ys.take k).map (Value.int .i64) ++ (zs.map (Value.int .i64)).drop (j + k)).length = (zs.map (Value.int .i64)).length := by simp; omega
      rw [hl2]
      simpa using hsp.1
end Go.Proofs.Ytckopilciekfbaa


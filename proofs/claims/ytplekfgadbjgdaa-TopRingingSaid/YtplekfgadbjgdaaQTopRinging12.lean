/- Permutations as keys of a map: permgroup.keyOf walked; what a key is. -/
import Derived.Test.YtplekfgadbjgdaaQTopRinging0
import Derived.Test.YtplekfgadbjgdaaQTopRinging1
import Derived.Test.YtplekfgadbjgdaaQTopRinging2
import Derived.Test.YtplekfgadbjgdaaQTopRinging5
import Derived.Test.YtplekfgadbjgdaaQTopRinging8
import Derived.Laws.CopyOwn
import Derived.Laws.Rows
namespace Go.Mp
open Go Go.WideMaps
theorem mapM_someP {α β : Type} {f : α → Option β} : ∀ (l : List α), (∀ x ∈ l, ∃ y, f x = some y) → ∃ ys, l.mapM f = some ys
  | [], _ => ⟨[], by simp⟩
  | a :: l, h => by
    obtain ⟨y, hy⟩ := h a (by simp)
    obtain ⟨ys, hys⟩ := mapM_someP l (fun x hx => h x (by simp [hx]))
    exact ⟨y :: ys, by simp [List.mapM_cons, hy, hys]⟩
/-- An array of numbers is a key. -/
theorem isK_arrP {P : Program} {k e : TypeId} {n : Nat} (A : ArrKey P k e n) (he : P.underlying e = some (.int .i64)) (hs : ∃ m, P.types.size = m + 1) (xs : List Int) (hl : xs.length = n) (hx : ∀ x ∈ xs, (Lit.int .i64 x).wf = true) : IsK P k (.agg (xs.map (Value.int .i64)).toArray) := by
  have hkt := A.keyType hs
  have hu := A.hu
  have hsz := A.size
  have hone := A.one
  obtain ⟨m, hm⟩ := hs
  have hf : (Value.agg (xs.map (Value.int .i64)).toArray).formed P k = true := by simp [Value.formed, hu, hsz, hl]
  have hk : ∃ ls, P.keyLits (P.types.size + 1) k (xs.map (Value.int .i64)) = some ls := by
    rw [hm]
    unfold Program.keyLits
    rw [hu]
    simp only [List.length_map, hl, hsz, if_true]
    obtain ⟨ys, hys⟩ := mapM_someP (f := fun i => P.keyLits (m + 1) e (((xs.map (Value.int .i64)).drop (i * P.cellsOf e)).take (P.cellsOf e))) (List.range n) (fun i hi => by
      have hi' : i < xs.length := by rw [hl]; simpa using hi
      rw [hone, Nat.mul_one]
      have e1 : ((xs.map (Value.int .i64)).drop i).take 1 = [.int .i64 xs[i]] := by
        rw [List.take_one, List.head?_drop]
        simp [List.getElem?_eq_getElem hi']
      rw [e1]
      unfold Program.keyLits
      rw [he]
      exact ⟨[.int .i64 xs[i]], if_pos ⟨rfl, hx _ (List.getElem_mem hi')⟩⟩)
    rw [hys]
    exact ⟨_, rfl⟩
  obtain ⟨ls, hls⟩ := hk
  refine ⟨.string (keyBytes ls), ?_⟩
  unfold keyOf
  rw [hu]
  simp only [hkt, hf, Bool.and_self, if_true]
  show Option.map _ (P.keyLits (P.types.size + 1) k (xs.map (Value.int .i64))) = _
  rw [hls]; rfl
end Go.Mp
namespace Go.Proofs.Ytplekfgadbjgdaa
open Go.RowKit Go.Sl Go.Mp Go.WideMaps

/-- The numbers of a key: a matching's, then zeros. -/
def pkI (d : List Int) : List Int := d ++ List.replicate (9 - d.length) 0
def pkC (d : List Int) : Array Value := ((pkI d).map (Value.int .i64)).toArray
def pkV (d : List Int) : Value := .agg (pkC d)
theorem pkI_length (d : List Int) (h : d.length ≤ 9) : (pkI d).length = 9 := by simp [pkI]; omega
theorem pkV_inj {a b : List Int} (h : a.length = b.length) (e : pkV a = pkV b) : a = b := by
  unfold pkV pkC at e
  have e2 : (pkI a).map (Value.int .i64) = (pkI b).map (Value.int .i64) := by injection e with e; exact congrArg Array.toList e
  have e3 : pkI a = pkI b := by
    have : ∀ (x y : List Int), x.map (Value.int .i64) = y.map (Value.int .i64) → x = y := fun x y hxy => by
      have := congrArg (List.map intOf) hxy
      simpa [List.map_map, Function.comp_def, intOf] using this
    exact this _ _ e2
  unfold pkI at e3
  rw [h] at e3
  exact List.append_cancel_right e3
theorem pkey_arr : ArrKey Try.prog 141 3 9 := ⟨Try.underlying141, by kernel_rfl, by kernel_rfl, by kernel_rfl⟩
theorem pkey : Go.Maps.Keyed Try.prog 141 := Go.Maps.Keyed.of_law pkey_arr.law
theorem wf_smallP {x : Int} (h0 : 0 ≤ x) (h1 : x ≤ 1000000) : (Lit.int .i64 x).wf = true := by
  simp only [Lit.wf, IntKind.min, IntKind.max, IntKind.signed, IntKind.bits, Bool.and_eq_true, decide_eq_true_eq, if_true]
  omega
theorem isK_pkV (d : List Int) (h : d.length ≤ 9) (hb : ∀ x ∈ d, 0 ≤ x ∧ x ≤ 1000000) : IsK Try.prog 141 (pkV d) := by
  refine isK_arrP pkey_arr Try.underlying3 ⟨Try.prog.types.size - 1, by kernel_rfl⟩ _ (pkI_length d h) fun x hx => ?_
  unfold pkI at hx
  rcases List.mem_append.1 hx with hx | hx
  · have := hb x hx
    exact wf_smallP this.1 this.2
  · obtain ⟨_, rfl⟩ := List.mem_replicate.1 hx
    exact wf_smallP (by omega) (by omega)
theorem zeros9 : (pkI []).map (Value.int .i64) = [.int .i64 0, .int .i64 0, .int .i64 0, .int .i64 0, .int .i64 0, .int .i64 0, .int .i64 0, .int .i64 0, .int .i64 0] := rfl

set_option maxHeartbeats 1000000 in
set_option maxRecDepth 100000 in
theorem pkeyOf_calls (d : List Int) (v : Value) (w : World) (hv : Ints w v (d)) (h : d.length ≤ 9) :
    Calls Try.prog 121 #[v] w fun e w' => e = .returned (pkV d) ∧ Below w.heap.size w w' := by
  have sv := hv.isSl
  have lv := hv.len
  obtain ⟨L, hL⟩ : ∃ L, d.length = L := ⟨_, rfl⟩
  have hil : d.length = L := hL
  rw [hil] at lv
  obtain ⟨sp, n, c, rfl, hnc, hcm, hsp⟩ := sv.cases
  rw [vlen_mk] at lv
  have HSRC : 0 < L → ∃ ad, sp = some ad ∧ ∀ j u, ((d).map (Value.int .i64))[j]? = some u → w.cell? (ad.add j) = some u := fun h0 => by
    obtain ⟨b, o, rfl⟩ := hsp (by omega)
    refine ⟨_, rfl, fun j u hu => ?_⟩
    rw [Addr.add_lit]
    exact hv.2.2 j u hu
  have HS := Lib.hid HSRC
  have HC := Lib.hid (rfl : (d).map (Value.int .i64) = (d).map (Value.int .i64))
  obtain ⟨cs, hcs⟩ : ∃ cs, (d).map (Value.int .i64) = cs := ⟨_, rfl⟩
  have hcl : cs.length = L := by rw [← hcs]; simpa using hil
  have h1 : ∀ v ∈ cs, v.oneCell' = true := fun v hv => by rw [← hcs] at hv; obtain ⟨_, _, rfl⟩ := List.mem_map.1 hv; rfl
  have hres : pkV d = .agg (splice ((pkI []).map (Value.int .i64)) 0 cs).toArray := by
    unfold pkV pkC pkI splice
    rw [← hcs, hL]
    simp only [List.map_append, List.map_replicate, List.take_zero, List.nil_append, List.length_nil, Nat.sub_zero]
    rw [show (List.map (Value.int .i64) d).length = L by simpa using hL, Nat.zero_add, List.drop_replicate]
  have HR := Lib.hid hres
  rw [hcs] at HS
  have hn9 : n ≤ 9 := by omega
  have HCL := Lib.hid hcl; have H1 := Lib.hid h1
  clear hcs hres hcl h1 HSRC hv hil hL HC
  subst lv
  go_enter Try.func121, Try.ntmps121
  go_wp2_with (with_reducible refine wpList_copy_splice rfl _ _ 22 22 rfl 3 Try.underlying22 (by kernel_rfl) _ sp 9 9 n c rfl rfl (w.heap.size + 1) 0 ((pkI []).map (Value.int .i64)) 141 ?_ cs ?_ ?_ ?_ H1.out (w.heap.size + 1) _ (Below.refl _ _) (Nat.le_refl _) ?_)
  · exact (heap_alloc2_new w _ _).trans rfl
  · rw [HCL.out]; exact (Nat.min_eq_left (by omega)).symm
  · intro h0
    rw [HCL.out] at h0
    obtain ⟨ad, h1, h2⟩ := HS.out h0
    exact ⟨ad, h1, fun j u hu => (World.cell?_of_block (Below.heap_alloc _ _ _ (Nat.lt_of_lt_of_le (block_lt_of_cell (h2 j u hu)) (by simp)))).trans ((World.cell?_of_block (Below.heap_alloc _ _ _ (block_lt_of_cell (h2 j u hu)))).trans (h2 j u hu))⟩
  · rw [HCL.out]; simp [pkI]; omega
  · intro w2 HG2 hb2
    have hx := (hb2.block w.heap.size (by omega)).trans (heap_alloc2_old w _ _)
    have HB2 := Lib.hid hb2
    clear hb2
    have hsz : (splice ((pkI []).map (Value.int .i64)) 0 cs).length = 9 := by rw [length_splice _ _ _ (by rw [HCL.out]; simp [pkI]; omega)]; simp [pkI]
    have hone : ∀ v ∈ splice ((pkI []).map (Value.int .i64)) 0 cs, v.oneCell' = true := fun v hv => by
      unfold splice at hv
      rcases List.mem_append.1 hv with hv | hv
      · simp at hv
      · rcases List.mem_append.1 hv with hv | hv
        · exact H1.out v hv
        · have := List.mem_of_mem_drop hv
          rw [zeros9] at this
          simp at this
          subst this; rfl
    obtain ⟨C, hC⟩ : ∃ C : Array Value, (splice ((pkI []).map (Value.int .i64)) 0 cs).toArray = C := ⟨_, rfl⟩
    rw [hC] at HG2 HR
    have hCs : C.size = 9 := by rw [← hC]; exact hsz
    have hi : (Try.prog.info? 141).map (·.size) = some C.size := by rw [hCs]; kernel_rfl
    have ho : (#[.int .i64 0, .int .i64 0, .int .i64 0, .int .i64 0, .int .i64 0, .int .i64 0, .int .i64 0, .int .i64 0, .int .i64 0] : Array Value).size = C.size := by rw [hCs]; rfl
    have hall : C.all (·.oneCell') = true := by rw [← hC]; exact Array.all_eq_true_iff_forall_mem.2 fun v hv => hone v (by simpa using hv)
    have HI := Lib.hid hi; have HO := Lib.hid ho; have HA := Lib.hid hall; have HX := Lib.hid hx
    clear hsz hone hC hCs hi ho hall hx
    go_wp2_with (first
      | (with_reducible refine wpList_load_row rfl _ _ rfl (w.heap.size + 1) rfl _ _ _ _ HG2.out Try.underlying141 rfl HI.out ?_)
      | (with_reducible refine wpList_store_row rfl _ _ _ rfl w.heap.size C rfl rfl _ _ HX.out HI.out HO.out HA.out ?_))
    have hg3 := setRow_heap w2 w.heap.size _ C _ _ HX.out
    refine bodyPost_ret (v := .agg C) (results_cell_row rfl _ _ w.heap.size _ C _ _ rfl hg3 Try.underlying141 rfl HI.out) rfl ⟨by rw [HR.out], ?_⟩
    exact below_setRow (((((Below.refl _ _).alloc (Nat.le_refl _) _).alloc (by simp) _)).trans (HB2.out.mono (by omega))) (Nat.le_refl _) C
end Go.Proofs.Ytplekfgadbjgdaa


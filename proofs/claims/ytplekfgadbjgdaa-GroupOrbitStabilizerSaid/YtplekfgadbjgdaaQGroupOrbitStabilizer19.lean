/- permgroup.newChain walked. -/
import Derived.Test.YtplekfgadbjgdaaQGroupOrbitStabilizer0
import Derived.Test.YtplekfgadbjgdaaQGroupOrbitStabilizer1
import Derived.Test.YtplekfgadbjgdaaQGroupOrbitStabilizer2
import Derived.Test.YtplekfgadbjgdaaQGroupOrbitStabilizer3
import Derived.Test.YtplekfgadbjgdaaQGroupOrbitStabilizer4
import Derived.Test.YtplekfgadbjgdaaQGroupOrbitStabilizer5
import Derived.Test.YtplekfgadbjgdaaQGroupOrbitStabilizer8
import Derived.Test.YtplekfgadbjgdaaQGroupOrbitStabilizer11
import Derived.Test.YtplekfgadbjgdaaQGroupOrbitStabilizer12
import Derived.Test.YtplekfgadbjgdaaQGroupOrbitStabilizer13
import Derived.Test.YtplekfgadbjgdaaQGroupOrbitStabilizer14
import Derived.Test.YtplekfgadbjgdaaQGroupOrbitStabilizer15
import Derived.Test.YtplekfgadbjgdaaQGroupOrbitStabilizer16
import Derived.Test.YtplekfgadbjgdaaQGroupOrbitStabilizer17
import Derived.Test.YtplekfgadbjgdaaQGroupOrbitStabilizer18

namespace Go.Proofs.Ytplekfgadbjgdaa
open Go.RowKit Go.Sl Go.Mp Go.Maps

theorem info_ptr : (Try.prog.info? 132).map (fun i => (i.zero, i.size, i.bytes)) = some (some (.pointer none), 1, 8) := by kernel_rfl

theorem alloc3 (w : World) (x y z : Obj) : (((w.alloc x).alloc y).alloc z).heap.size = w.heap.size + 3 ∧ (∀ b, b < w.heap.size → (((w.alloc x).alloc y).alloc z).heap[b]? = w.heap[b]?) ∧ (((w.alloc x).alloc y).alloc z).heap[w.heap.size]? = some x ∧ (((w.alloc x).alloc y).alloc z).heap[w.heap.size + 1]? = some y := by
  refine ⟨by simp, fun b hb => ?_, ?_, ?_⟩
  · rw [Below.heap_alloc _ z b (by simp; omega), Below.heap_alloc _ y b (by simp; omega), Below.heap_alloc _ x b hb]
  · rw [Below.heap_alloc _ z _ (by simp; omega), Below.heap_alloc _ y _ (by simp), heap_alloc_new]
  · rw [Below.heap_alloc _ z _ (by simp)]
    have := heap_alloc_new (w.alloc x) y
    rwa [World.size_alloc] at this
theorem own_lit1 {w : World} {B b : Nat} {x : Int} (h : w.heap[b]? = some (.cells #[.int .i64 x] 3 (0, 0))) (hB : B ≤ b) : OwnI w B (.slice (some ⟨b, 0, none⟩) 1 1) [x] :=
  ⟨isSl_mk _ _ _ _ (Nat.le_refl _) (by unfold maxLen; omega), by simp, fun _ => ⟨hB, rfl, _, h, by simp, by simp⟩⟩

set_option maxHeartbeats 8000000 in
set_option maxRecDepth 100000 in
theorem newChain_calls (n : Nat) (gv : Value) (vs : List Value) (S : List (List Int)) (w : World) (hr : RowsV w gv vs S) (hS : ∀ g ∈ S, Pm n g) (hn : n ≤ 9) (hl : S.length ≤ 100) :
    Calls Try.prog 81 #[.int .i64 n, gv] w fun e w' => ∃ cv bx lab C, e = .returned cv ∧ ChM lab w' w.heap.size n cv bx C ∧ ChainOf n S C ∧ Below w.heap.size w w' := by
  have hmm := @run_makeMap Try.prog
  have sgv := hr.isSl
  have lgv := hr.len
  obtain ⟨ip, hip, hz0, hz1, hz2⟩ := info_parts info_ptr
  have HIP := Lib.hid (And.intro hip (And.intro hz0 (And.intro hz1 hz2)))
  obtain ⟨G, hG⟩ : ∃ G, S.length = G := ⟨_, rfl⟩
  rw [hG] at lgv hl
  have HR := Lib.hid hr; have HS := Lib.hid hS; have HG := Lib.hid hG
  clear hr hS hG hip hz0 hz1 hz2
  go_enter Try.func81, Try.ntmps81
  go_wp2_with fail
  go_loopw [5, 10] (fun c s wr => ∃ (k : Nat) (lab : Nat → Nat) (bx : Nat → Nat), s = .int .i64 k ∧ k ≤ n ∧ BldM lab wr w.heap.size n k c bx ∧ Below w.heap.size w wr) (fun _ s _ => n - (intOf s).toNat)
  case atStart => exact ⟨0, fun _ => 0, fun _ => 0, rfl, Nat.zero_le _, bld_start w n, Below.refl _ _⟩
  case round =>
    obtain ⟨k, lab, bx, rfl, hk, hbm, hbr⟩ := hrel
    have hbs := hbr.size
    have sc := hbm.own.1
    by_cases hlt : k < n
    · obtain ⟨wa, hwa⟩ : ∃ W, W = wr.alloc (.map #[] 0) := ⟨_, rfl⟩
      have ba : Below wr.heap.size wr wa := by rw [hwa]; exact (Below.refl _ _).alloc (Nat.le_refl _) _
      have ma : MapV Try.prog 3 wa wr.heap.size 0 (fun _ => none) := by rw [hwa]; exact mapV_made wr
      have za : wr.heap.size < wa.heap.size := ma.lt
      have hwa' := hwa.symm
      have HBM := Lib.hid hbm; have HBR := Lib.hid hbr; have BA := Lib.hid ba; have MA := Lib.hid ma
      clear hwa hbm hbr ba ma
      go_wp2_with fail
      clear hwa'
      refine (identity_calls n _ (by omega)).mono ?_
      rintro e wb ⟨iv, rfl, hiv, hb⟩
      have siv := hiv.isSl
      have zb := hb.size
      have mb := MA.out.below hb
      have MB := Lib.hid mb; have HIV := Lib.hid hiv; have HB := Lib.hid hb
      clear hb hiv mb
      have lc : vlen u5 = k := by have := HBM.out.own.2.1; simp at this; omega
      have hrc : ∀ q, row u5 = some q → q < wr.heap.size := fun q hq => (HBM.out.own.lt q hq).2
      have HRC := Lib.hid hrc
      clear hrc
      go_wp2_with (first
        | (refine wpList_insertV rfl _ _ _ 133 rfl gkey Try.underlying133 rfl MB.out rfl rfl (isK_int (by omega)) ?_; intro wc mc hmc hm1 hm2 hg3 hs3; have HOW := Lib.hid (Go.Sl.Own.alloc (Go.Sl.Own.alloc (Go.Sl.Own.alloc (Go.Sl.Own.grown ((HBM.out.own.below BA.out).below HB.out) hg3 (fun q hq e => by have := HRC.out q hq; injection e; omega)) (.cells #[.int .i64 (k : Int)] 3)) (.cells #[.slice none 0 0, .map (some wr.heap.size), .slice (some ⟨wb.heap.size, 0, none⟩) 1 1] 135)) (.cells #[.pointer (some ⟨wb.heap.size + 1, 0, none⟩)] 132)); have sl := sl_one ((wc.alloc (.cells #[.int .i64 (k : Int)] 3)).alloc (.cells #[.slice none 0 0, .map (some wr.heap.size), .slice (some ⟨wb.heap.size, 0, none⟩) 1 1] 135)) (.pointer (some ⟨wb.heap.size + 1, 0, none⟩)) 132; rw [World.size_alloc, World.size_alloc, hs3] at sl; have HSL := Lib.hid sl; clear sl)
        | (at_builtin; refine wpList_append_sl (v := u5) (y := .slice (some ⟨wb.heap.size + 1 + 1, 0, none⟩) 1 1) rfl (.tmp 13) (.tmp 23) 98 rfl w.heap.size 132 ip (.pointer none) 1 8 Try.underlying98 HIP.out.1 HIP.out.2.1 HIP.out.2.2.1 HIP.out.2.2.2 rfl (by decide) rfl rfl HOW.out HSL.out (by intro z hz; rw [List.mem_singleton.1 hz]; rfl) (by simp only [vlen_mk, lc, maxLen]; omega) (by simp only [vlen_mk, lc]; omega) (by simp; omega) ?_; intro cv' wd ho4 hg4 hr4; have s4 := ho4.1))
      obtain ⟨z1, z2, z3, z4⟩ := alloc3 wc (.cells #[.int .i64 (k : Int)] 3) (.cells #[.slice none 0 0, .map (some wr.heap.size), .slice (some ⟨wb.heap.size, 0, none⟩) 1 1] 135) (.cells #[.pointer (some ⟨wb.heap.size + 1, 0, none⟩)] 132)
      rw [hs3] at z1 z2 z3 z4
      obtain ⟨W6, hW6⟩ : ∃ W, W = ((wc.alloc (.cells #[.int .i64 (k : Int)] 3)).alloc (.cells #[.slice none 0 0, .map (some wr.heap.size), .slice (some ⟨wb.heap.size, 0, none⟩) 1 1] 135)).alloc (.cells #[.pointer (some ⟨wb.heap.size + 1, 0, none⟩)] 132) := ⟨_, rfl⟩
      rw [← hW6] at z1 z2 z3 z4 hg4 hr4
      have hn1 : 0 < (iota n).length := by rw [iota_length]; omega
      have hir : row iv = some (vblk iv) := row_some (by have := HIV.out.ints.cap; omega)
      have hil := HIV.out.lt _ hir
      have hge := hg4.size
      have keep : ∀ b, b < wb.heap.size + 3 → (∀ q, row u5 = some q → q ≠ b) → wd.heap[b]? = W6.heap[b]? := fun b h1 h2 => hg4.block b (by omega) fun e => h2 b e.symm rfl
      have far : ∀ b, wr.heap.size ≤ b → ∀ q, row u5 = some q → q ≠ b := fun b h1 q hq e => by have := HRC.out q hq; omega
      have hmd : MapV Try.prog 3 wd wr.heap.size (if (none : Option Value).isSome = true then 0 else 0 + 1) mc := by
        obtain ⟨es, c, h1, r⟩ := hmc
        exact ⟨es, c, ((keep _ (by omega) (far _ (Nat.le_refl _))).trans (z2 _ (by omega))).trans h1, r⟩
      have hid : Ints wd iv (iota n) := by
        have h1 : Ints wc iv (iota n) := Go.Sl.Sl.of_block HIV.out.ints fun hl => hg3.block _ hl fun e => by injection e with e; omega
        exact Go.Sl.Sl.of_block h1 fun hl => (keep _ (by omega) (far _ (by omega))).trans (z2 _ (by omega))
      obtain ⟨lab', hnx⟩ := HBM.out.step (w' := wd) (mb := wr.heap.size) (ob := wb.heap.size) (bb := wb.heap.size + 1) (iv := iv) (ov := .slice (some ⟨wb.heap.size, 0, none⟩) 1 1) (m := mc) (cv' := cv') hlt hbs (Nat.le_refl _) (by omega) (by omega) (by omega) (by omega)
        (fun b h1 h2 => ((keep b (by omega) fun q hq e => h2 (by rw [hq, e])).trans (z2 b (by omega))).trans ((hg3.block b (by omega) fun e => by injection e with e; omega).trans ((HB.out.block b (by omega)).trans (BA.out.block b h1))))
        ((keep _ (by omega) (far _ (by omega))).trans z4) (own_lit1 ((keep _ (by omega) (far _ (by omega))).trans z3) (by omega)) (fun q hq => by simpa [row, vcap, vblk] using hq.symm) hmd hm1 (fun key hk => by rw [hm2 key hk]) hid ho4 (fun q hq => by
          rcases hr4 q hq with h | h
          · exact .inl h
          · exact .inr (by omega))
      have hbw : Below w.heap.size w wd := by
        have h1 : Below w.heap.size w wb := (HBR.out.trans (BA.out.mono hbs)).trans (HB.out.mono (by omega))
        have h2 : Below w.heap.size w wc := h1.grown hg3 h1.size (fun q hq => by injection hq with hq; omega)
        have h3 : Below w.heap.size w W6 := by
          rw [hW6]
          exact ((h2.alloc (by omega) _).alloc (by simp; omega) _).alloc (by simp; omega) _
        exact h3.grown hg4 (by omega) fun q hq => by have := HBM.out.own.lt q hq; omega
      have HR6 := Lib.hid (And.intro hnx hbw)
      clear hW6 z1 z2 z3 z4 hg4 hr4 ho4 hir hil hge keep far hmd hid hnx hbw hmc hm1 hm2 hg3 HOW HSL
      go_wp2_with fail
      go_roundw
      case rel => exact ⟨k + 1, lab', _, by go_num, by omega, HR6.out⟩
      case measure => (simp [intOf]; try omega)
    · obtain rfl : k = n := by omega
      obtain ⟨lab0, hM0⟩ := hbm.done
      have HM0 := Lib.hid hM0; have HBR := Lib.hid hbr
      clear hbm hbr hM0
      go_wp2_with fail
      go_loopw [28] (fun s wi => ∃ (q : Nat) (lab1 : Nat → Nat) (D : Nat → Lv), s = .int .i64 q ∧ q ≤ G ∧ ChM lab1 wi w.heap.size k u5 bx D ∧ InsG k q S D ∧ PosC k D ∧ Below w.heap.size w wi) (fun s _ => G - (intOf s).toNat)
      case atStart => exact ⟨0, lab0, lv0 k, rfl, Nat.zero_le _, HM0.out, insG_start k hn S, pos0, HBR.out⟩
      case round =>
        rename World => wi
        obtain ⟨q, lab1, D, rfl, hq, hM, hI, hP, hb⟩ := hrel
        by_cases hqG : q < G
        · have hqS : q < S.length := by rw [HG.out]; exact hqG
          have cr := (HR.out.below hb).cell (i := q) hqS
          have rr := HR.out.row (i := q) hqS
          rw [nthr_lt hqS] at rr
          obtain ⟨r, hr⟩ : ∃ r, nthv vs q = r := ⟨_, rfl⟩
          rw [hr] at cr rr
          have sr := rr.isSl
          have hrl : RowL lab1 wi r S[q] := ⟨rr.below hb, fun h0 => by
            have h1 := rr.blk_lt h0
            by_cases e : lab1 (vblk r) = 0
            · exact e
            · have := (hM.lt _ e).1; omega⟩
          have hSq := HS.out _ (List.getElem_mem hqS)
          have HM := Lib.hid hM; have HI := Lib.hid hI; have HPC := Lib.hid hP; have HB := Lib.hid hb; have HRL := Lib.hid hrl; have HSQ := Lib.hid hSq
          clear hM hI hP hb rr hr hrl hSq
          go_wp2_with fail
          refine (addC_all k w.heap.size hn k 0 (by omega) (Nat.zero_le _) lab1 u5 bx D r S[q] _ HM.out HPC.out HI.out.half (fun j _ => HI.out.sum j) HRL.out HSQ.out (fun x hx => absurd hx (Nat.not_lt_zero _)) HB.out.size).mono ?_
          rintro e wj ⟨rfl, lab2, E, hM2, hA, hK⟩
          have hI2 := HI.out.step hn HS.out hqS hA
          have hP2 : PosC k E := fun j hj => ⟨(hA.good.lv j (Nat.zero_le _) hj).gpos (by omega), (hA.good.lv j (Nat.zero_le _) hj).rpos (by omega) (by omega)⟩
          have hB2 := HB.out.trans (hK.below (fun b hb => (HM.out.lt b hb).1) HB.out.size)
          have HR6 := Lib.hid (And.intro hM2 (And.intro hI2 (And.intro hP2 hB2)))
          clear hM2 hA hK hI2 hP2 hB2
          go_wp2_with fail
          go_roundw
          case rel => exact ⟨q + 1, lab2, E, by go_num, by omega, HR6.out⟩
          case measure => (simp [intOf]; try omega)
        · obtain rfl : q = G := by omega
          rw [← HG.out] at hI
          have hch := hI.chain hn HS.out
          have HRES := Lib.hid (And.intro hM (And.intro hch hb))
          clear hM hI hP hb hch
          go_wp2_with fail
          go_ret
          exact ⟨_, bx, lab1, D, rfl, HRES.out⟩
end Go.Proofs.Ytplekfgadbjgdaa


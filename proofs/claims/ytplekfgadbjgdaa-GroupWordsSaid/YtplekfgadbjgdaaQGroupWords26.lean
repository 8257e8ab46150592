/- groupWords: for every input the statement returns true, and nothing that was there has changed. -/
import Derived.Test.YtplekfgadbjgdaaQGroupWords0
import Derived.Test.YtplekfgadbjgdaaQGroupWords1
import Derived.Test.YtplekfgadbjgdaaQGroupWords2
import Derived.Test.YtplekfgadbjgdaaQGroupWords3
import Derived.Test.YtplekfgadbjgdaaQGroupWords4
import Derived.Test.YtplekfgadbjgdaaQGroupWords5
import Derived.Test.YtplekfgadbjgdaaQGroupWords6
import Derived.Test.YtplekfgadbjgdaaQGroupWords7
import Derived.Test.YtplekfgadbjgdaaQGroupWords8
import Derived.Test.YtplekfgadbjgdaaQGroupWords9
import Derived.Test.YtplekfgadbjgdaaQGroupWords10
import Derived.Test.YtplekfgadbjgdaaQGroupWords11
import Derived.Test.YtplekfgadbjgdaaQGroupWords12
import Derived.Test.YtplekfgadbjgdaaQGroupWords13
import Derived.Test.YtplekfgadbjgdaaQGroupWords14
import Derived.Test.YtplekfgadbjgdaaQGroupWords15
import Derived.Test.YtplekfgadbjgdaaQGroupWords16
import Derived.Test.YtplekfgadbjgdaaQGroupWords17
import Derived.Test.YtplekfgadbjgdaaQGroupWords18
import Derived.Test.YtplekfgadbjgdaaQGroupWords19
import Derived.Test.YtplekfgadbjgdaaQGroupWords20
import Derived.Test.YtplekfgadbjgdaaQGroupWords21
import Derived.Test.YtplekfgadbjgdaaQGroupWords22
import Derived.Test.YtplekfgadbjgdaaQGroupWords23
import Derived.Test.YtplekfgadbjgdaaQGroupWords24
import Derived.Test.YtplekfgadbjgdaaQGroupWords25

namespace Go.Proofs.Ytplekfgadbjgdaa
open Go.RowKit Go.Sl

/-- A variable in its box. -/
def CelG (w : World) (b : Nat) (v : Value) (t : TypeId) : Prop := w.heap[b]? = some (.cells #[v] t (0, 0))
section
variable {w w' : World} {b : Nat} {v : Value} {t : TypeId}
theorem CelG.lt (h : CelG w b v t) : b < w.heap.size := (Array.getElem?_eq_some_iff.1 h).1
theorem CelG.cell (h : CelG w b v t) : w.cell? ⟨b, 0, none⟩ = some v := cell_of_one h
theorem CelG.free (h : CelG w b v t) : w.frozen? ⟨b, 0, none⟩ = false := free_of_one h
theorem CelG.below (h : CelG w b v t) (hb : Below w.heap.size w w') : CelG w' b v t := (hb.block _ h.lt).trans h
theorem CelG.other (h : CelG w b v t) {p : Addr} (hp : b ≠ p.block) (u : Value) : CelG (w.setCell p u) b v t := (Below.heap_setCell w p u b hp).trans h
theorem CelG.set (h : CelG w b v t) (u : Value) : CelG (w.setCell ⟨b, 0, none⟩ u) b u t := one_setCell h
end
theorem letter_gw {G : Nat} (zs : List Int) (hG : 1 ≤ G) : ∀ x ∈ wordL (G : Int) zs 10, x ≠ 0 ∧ -(G : Int) ≤ x ∧ x ≤ (G : Int) := fun x hx => by
  obtain ⟨y, _, rfl⟩ := List.mem_map.1 hx
  have h1 := Int.emod_nonneg y (b := 2 * (G : Int)) (by omega)
  have h2 := Int.emod_lt_of_pos y (b := 2 * (G : Int)) (by omega)
  unfold letterOf
  split <;> omega
theorem rows_lit1_set (w : World) (xs : List Int) (v u : Value) {B LB : Nat} (hv : OwnI w B v xs) (hlb : LB < B) (hB : B ≤ w.heap.size) : RowsV ((w.alloc (.cells #[v] 22)).setCell ⟨LB, 0, none⟩ u) (.slice (some ⟨w.heap.size, 0, none⟩) 1 1) [v] [xs] :=
  ⟨Sl.setOther (rows_lit1 w xs v hv.ints).1 (by show LB ≠ w.heap.size; omega) u, rfl, fun i hi => by
    simp only [List.length_cons, List.length_nil] at hi
    obtain rfl : i = 0 := by omega
    exact ((hv.alloc _).setOther (fun k hk => by have := (hv.lt k hk).1; show LB ≠ k; omega) u).ints⟩
theorem perms_pmW {n : Nat} (hn : n ≤ 9) (R : List (List Int)) : ∀ g ∈ R.map (permL n), Pm n g := fun g hg => by
  obtain ⟨r, _, rfl⟩ := List.mem_map.1 hg
  exact ⟨permL_isPerm r (by omega), permL_length n r⟩

set_option maxHeartbeats 16000000 in
set_option maxRecDepth 100000 in
theorem groupWords_true {w0 : World} (n0 : Int) (hn0 : I64 n0) (raw : Value) (xss : List (List Int)) (hr0 : Rows2 w0 raw xss) (hx0 : ∀ r ∈ xss, ∀ x ∈ r, I64 x) (wv : Value) (zs : List Int) (hw0 : Ints w0 wv zs) (hz0 : ∀ x ∈ zs, I64 x) (w : World) (hw : w = w0 := by rfl) :
    Calls Try.prog 6 #[.int .i64 n0, raw, wv] w fun e w' => e = .returned (.bool true) ∧ Below w.heap.size w w' := by
  subst hw
  obtain ⟨rvs, hrv⟩ := hr0
  have sr := hrv.isSl
  have swv := hw0.isSl
  obtain ⟨n, hN⟩ : ∃ n : Nat, 1 + n0 % 6 = (n : Int) := ⟨(1 + n0 % 6).toNat, by omega⟩
  have hn6 : n ≤ 6 := by omega
  have hn1 : 1 ≤ n := by omega
  obtain ⟨S, hS⟩ : ∃ S, (xss.take 3).map (permL n) = S := ⟨_, rfl⟩
  have hSpm : ∀ g ∈ S, Pm n g := by rw [← hS]; exact perms_pmW (by omega) _
  have hSl : S.length ≤ 3 := by rw [← hS, List.length_map, List.length_take]; omega
  obtain ⟨G, hG⟩ : ∃ G, S.length = G := ⟨_, rfl⟩
  rw [hG] at hSl
  obtain ⟨NB, hNB⟩ : ∃ NB, w.heap.size = NB := ⟨_, rfl⟩
  obtain ⟨W1, hW1⟩ : ∃ W, W = w.alloc (.cells #[.int .i64 n0] 3) := ⟨_, rfl⟩
  have cn := (show CelG W1 NB (.int .i64 n0) 3 by rw [hW1, ← hNB]; exact heap_alloc_new _ _)
  have b1 : Below w.heap.size w W1 := by rw [hW1]; exact (Below.refl _ _).alloc (Nat.le_refl _) _
  have hW1' := hW1.symm
  have kn1 := cn.cell
  have kf1 := cn.free
  obtain ⟨W2, hW2⟩ : ∃ W, W = W1.setCell ⟨NB, 0, none⟩ (.int .i64 n) := ⟨_, rfl⟩
  have cn2 := (show CelG W2 NB (.int .i64 n) 3 by rw [hW2]; exact cn.set _)
  have b2 : Below w.heap.size w W2 := by rw [hW2]; exact b1.setCell (p := ⟨NB, 0, none⟩) (by show w.heap.size ≤ NB; omega) _
  have hW2' := hW2.symm
  have kn2 := cn2.cell
  have CN := Lib.hid cn2; have HB := Lib.hid b2
  have HRV := Lib.hid (hrv.below b2); have HW := Lib.hid (hw0.below b2); have HW0 := Lib.hid hw0
  have HZ := Lib.hid hz0; have HX0 := Lib.hid hx0; have HS := Lib.hid hS; have HP := Lib.hid hSpm; have HG := Lib.hid hG; have HN := Lib.hid hN; have HNB := Lib.hid hNB
  clear hW1 hW2 cn b1 cn2 b2 hrv hw0 hz0 hx0 hS hSpm hG hN
  go_enter Try.func6, Try.ntmps6
  go_wp2_with fail
  refine (below_calls n0 6 _ (by decide) (by decide) hn0).mono ?_
  rintro e w' ⟨rfl, rfl⟩
  have hadd := HN.out
  go_wp2_with fail
  refine (perms_calls n 3 raw rvs xss _ HRV.out HX0.out (by omega) (by decide)).mono ?_
  rw [HS.out]
  rintro e w1 ⟨lv, rfl, hl, hb⟩
  obtain ⟨vs, hv⟩ := hl.own.rows
  have sl := hv.isSl
  have ll := hv.len
  rw [HG.out] at ll
  replace CN := Lib.hid (CN.out.below hb); replace HW := Lib.hid (HW.out.below hb); replace HB := Lib.hid (Below.chain HB.out hb)
  obtain ⟨LB, hLB⟩ : ∃ LB, w1.heap.size = LB := ⟨_, rfl⟩
  have hlt := CN.out.lt
  obtain ⟨W3, hW3⟩ : ∃ W, W = w1.alloc (.cells #[.slice none 0 0] 24) := ⟨_, rfl⟩
  have b3 : Below w1.heap.size w1 W3 := by rw [hW3]; exact (Below.refl _ _).alloc (Nat.le_refl _) _
  have cl := (show CelG W3 LB (.slice none 0 0) 24 by rw [hW3, ← hLB]; exact heap_alloc_new _ _)
  obtain ⟨W4, hW4⟩ : ∃ W, W = W3.setCell ⟨LB, 0, none⟩ lv := ⟨_, rfl⟩
  have b4 : Below w1.heap.size w1 W4 := by rw [hW4]; exact b3.setCell (p := ⟨LB, 0, none⟩) (by show w1.heap.size ≤ LB; omega) _
  have cl4 := (show CelG W4 LB lv 24 by rw [hW4]; exact cl.set _)
  replace CN := Lib.hid (CN.out.below b4); replace HW := Lib.hid (HW.out.below b4); replace HB := Lib.hid (Below.chain HB.out b4)
  have hW3' := hW3.symm; have hW4' := hW4.symm
  have kl3 := cl.cell; have kf3 := cl.free; have kl4 := cl4.cell
  have CL := Lib.hid cl4; have HV := Lib.hid (hv.below b4)
  have HLB := Lib.hid hLB; have HLT := Lib.hid hlt
  clear hl hv hb hW3 hW4 b3 b4 cl cl4 hlt
  clear kn1 kf1 hadd kn2 hW1' hW2'
  by_cases hG1 : 1 ≤ G
  · have hne : ¬ (G : Int) = 0 := by omega
    have kn := CN.out.cell
    clear kl4
    have kl := CL.out.cell
    have hcap := sl.le
    rw [ll] at hcap
    have kn := CN.out.cell
    have kl := CL.out.cell
    go_wp2_with fail
    refine (word_calls (G : Int) wv zs 10 _ HW.out HZ.out (by omega) (by omega) (by decide)).mono ?_
    obtain ⟨X, hX⟩ : ∃ X, wordL (G : Int) zs 10 = X := ⟨_, rfl⟩
    have hXok : ∀ x ∈ X, okL S x := fun x hx => by rw [← hX] at hx; have := letter_gw zs hG1 x hx; exact ⟨this.1, by rw [HG.out]; omega⟩
    have hX10 : X.length ≤ 10 := by rw [← hX]; exact wordL_length _ _ _
    rw [hX]
    rintro e u1 ⟨xv, rfl, hx, hb⟩
    have hxi := hx.ints
    have sx := hxi.isSl
    have lx := hxi.len
    have HX := Lib.hid hxi; have HXO := Lib.hid hXok
    clear kn kl hX hx hxi hXok
    replace CN := Lib.hid (CN.out.below hb)
    replace CL := Lib.hid (CL.out.below hb)
    replace HV := Lib.hid (HV.out.below hb)
    replace HB := Lib.hid (Below.chain HB.out hb)
    clear hb
    have kn := CN.out.cell
    have kl := CL.out.cell
    go_wp2_with fail
    refine (gvalue_calls n NB LB lv vs S xv X _ CN.out CL.out HV.out HP.out HX.out HXO.out (by omega) (by rw [HG.out]; omega)).mono ?_
    have hgen := valL_gen (n := n) (S := S) X HXO.out
    obtain ⟨p, hp⟩ : ∃ p, valL n S X = p := ⟨_, rfl⟩
    rw [hp] at hgen ⊢
    rintro e u2 ⟨pv, rfl, hpv, hb⟩
    have HPV := Lib.hid hpv; have HGEN := Lib.hid hgen; have HPX := Lib.hid hp
    have sp := hpv.isSl
    clear kn kl hpv hgen hp
    replace CN := Lib.hid (CN.out.below hb)
    replace CL := Lib.hid (CL.out.below hb)
    replace HV := Lib.hid (HV.out.below hb)
    replace HX := Lib.hid (HX.out.below hb)
    replace HB := Lib.hid (Below.chain HB.out hb)
    clear hb
    have kn := CN.out.cell
    have kl := CL.out.cell
    go_wp2_with fail
    refine (gcontains_calls n lv vs S pv p _ HV.out HP.out HPV.out HGEN.out (by omega) (by rw [HG.out]; omega)).mono ?_
    rintro e u3 ⟨rfl, hb⟩
    clear kn kl
    replace CN := Lib.hid (CN.out.below hb)
    replace CL := Lib.hid (CL.out.below hb)
    replace HV := Lib.hid (HV.out.below hb)
    replace HX := Lib.hid (HX.out.below hb)
    replace HPV := Lib.hid (HPV.out.below hb)
    replace HB := Lib.hid (Below.chain HB.out hb)
    clear hb
    have kn := CN.out.cell
    have kl := CL.out.cell
    go_wp2_with fail
    refine (gfactor_calls n lv vs S pv p _ HV.out HP.out HPV.out HGEN.out (by omega) (by rw [HG.out]; omega)).mono ?_
    rintro e u4 ⟨yv, Y, rfl, hy, hval, hYok, hshort, hb⟩
    have hlen := hshort X HXO.out HPX.out
    have hyi := hy.ints
    have sy := hyi.isSl
    have ly := hyi.len
    have hYok2 : ∀ x ∈ Y, x ≠ 0 ∧ x ≤ (G : Int) ∧ -(G : Int) ≤ x := fun x hx => by have h1 := (hYok x hx).1; have h2 := (hYok x hx).2; rw [HG.out] at h2; omega
    have HY := Lib.hid hyi; have HVAL := Lib.hid hval; have HYO := Lib.hid hYok; have HYO2 := Lib.hid hYok2
    clear kn kl hy hval hYok hshort hyi hYok2
    replace CN := Lib.hid (CN.out.below hb)
    replace CL := Lib.hid (CL.out.below hb)
    replace HV := Lib.hid (HV.out.below hb)
    replace HX := Lib.hid (HX.out.below hb)
    replace HPV := Lib.hid (HPV.out.below hb)
    replace HB := Lib.hid (Below.chain HB.out hb)
    clear hb
    obtain ⟨M, hM⟩ : ∃ M, Y.length = M := ⟨_, rfl⟩
    rw [hM] at ly hlen
    have HM := Lib.hid hM
    clear hM
    have kn := CN.out.cell
    have kl := CL.out.cell
    go_wp2_with fail
    refine (grouped_calls _).mono ?_
    rintro e u5 ⟨rfl, hb⟩
    clear kn kl
    replace CN := Lib.hid (CN.out.below hb)
    replace CL := Lib.hid (CL.out.below hb)
    replace HV := Lib.hid (HV.out.below hb)
    replace HX := Lib.hid (HX.out.below hb)
    replace HPV := Lib.hid (HPV.out.below hb)
    replace HY := Lib.hid (HY.out.below hb)
    replace HB := Lib.hid (Below.chain HB.out hb)
    clear hb
    have kn := CN.out.cell
    have kl := CL.out.cell
    go_wp2_with fail
    go_loop [74] (fun s => ∃ i : Nat, s = .int .i64 i ∧ i ≤ M) (fun s => M - (intOf s).toNat)
    case atStart => exact ⟨0, rfl, Nat.zero_le _⟩
    case round =>
      obtain ⟨i, rfl, hi⟩ := hrel
      by_cases hlt : i < M
      · have hiY : i < Y.length := by rw [HM.out]; exact hlt
        have cy := HY.out.cell hiY
        obtain ⟨hy1, hy2, hy3⟩ := HYO2.out _ (nth_mem hiY)
        obtain ⟨y, hy⟩ : ∃ y, nth Y i = y := ⟨_, rfl⟩
        rw [hy] at cy hy1 hy2 hy3
        clear hy
        have g1 : ¬ (G : Int) < y := by omega
        have g2 : ¬ y < -(G : Int) := by omega
        go_wp2_with fail
        go_round
        case rel => exact ⟨_, _, _, ⟨i + 1, rfl, by omega⟩, rfl, rfl, rfl⟩
        case measure => (simp [intOf]; try omega)
      · obtain rfl : i = M := by omega
        go_wp2_with fail
        refine (gvalue_calls n NB LB lv vs S yv Y _ CN.out CL.out HV.out HP.out HY.out HYO.out (by omega) (by rw [HG.out]; omega)).mono ?_
        rw [HVAL.out]
        rintro e u6 ⟨qv, rfl, hqv, hb⟩
        have HQV := Lib.hid hqv
        have sq := hqv.isSl
        clear kn kl hqv
        replace HPV := Lib.hid (HPV.out.below hb)
        replace HB := Lib.hid (Below.chain HB.out hb)
        clear hb
        go_wp2_with fail
        refine (equal_calls _ _ _ _ _ HQV.out HPV.out).mono ?_
        rintro e u7 ⟨rfl, hb⟩
        replace HB := Lib.hid (Below.chain HB.out hb)
        clear hb
        go_wp2_with fail
        go_ret
        exact ⟨by simp, HB.out⟩
  · obtain rfl : G = 0 := by omega
    have kn := CN.out.cell
    have kl := kl4
    have kf := CL.out.free
    go_wp2_with fail
    refine (perm_calls n (.slice none 0 0) [] _ (ints_nil _) (by omega) (fun z hz => by simp at hz)).mono ?_
    rw [permL_nil]
    rintro e w2 ⟨gv, rfl, hg, hb⟩
    have hgi := hg.ints
    have sg := hgi.isSl
    have hnb := HLT.out; have hlbe := HLB.out; have hnbe := HNB.out
    have lt4 := CL.out.lt
    have hbs := hb.size
    replace CN := Lib.hid (CN.out.below hb); replace CL := Lib.hid (CL.out.below hb); replace HB := Lib.hid (Below.chain HB.out hb)
    have hr6 := rows_lit1_set w2 (iota n) gv (.slice (some ⟨w2.heap.size, 0, none⟩) 1 1) hg lt4 hbs
    clear kn kl kf hb hg hgi
    obtain ⟨W5, hW5⟩ : ∃ W, W = w2.alloc (.cells #[gv] 22) := ⟨_, rfl⟩
    have b5 : Below w2.heap.size w2 W5 := by rw [hW5]; exact (Below.refl _ _).alloc (Nat.le_refl _) _
    rw [← hW5] at hr6
    replace CN := Lib.hid (CN.out.below b5); replace CL := Lib.hid (CL.out.below b5); replace HB := Lib.hid (Below.chain HB.out b5)
    have kl := CL.out.cell
    have kf := CL.out.free
    obtain ⟨W6, hW6⟩ : ∃ W, W = W5.setCell ⟨LB, 0, none⟩ (.slice (some ⟨w2.heap.size, 0, none⟩) 1 1) := ⟨_, rfl⟩
    have cn6 := (show CelG W6 NB (.int .i64 n) 3 by rw [hW6]; exact CN.out.other (by show NB ≠ LB; omega) _)
    have cl6 := (show CelG W6 LB (.slice (some ⟨w2.heap.size, 0, none⟩) 1 1) 24 by rw [hW6]; exact CL.out.set _)
    have b6 : Below w.heap.size w W6 := by rw [hW6]; exact HB.out.setCell (p := ⟨LB, 0, none⟩) (by show w.heap.size ≤ LB; omega) _
    rw [← hW6] at hr6
    have hW5' := hW5.symm; have hW6' := hW6.symm
    have sl := hr6.isSl
    replace CN := Lib.hid cn6; replace CL := Lib.hid cl6; replace HB := Lib.hid b6; replace HV := Lib.hid hr6
    replace HW := Lib.hid (HW0.out.below b6)
    have HG2 := Lib.hid (show [iota n].length = 1 from rfl)
    have HP2 := Lib.hid (show ∀ g ∈ [iota n], Pm n g from fun g hg => by rw [List.mem_singleton.1 hg]; have := permL_nil n; rw [← this]; exact ⟨permL_isPerm [] (by omega), permL_length n []⟩)
    clear hW5 hW6 cn6 cl6 b5 b6 hr6
    have kn := CN.out.cell
    have kl6 := CL.out.cell
    have kn := CN.out.cell
    have kl := CL.out.cell
    go_wp2_with fail
    refine (word_calls 1 wv zs 10 _ HW.out HZ.out (by omega) (by omega) (by decide)).mono ?_
    obtain ⟨X, hX⟩ : ∃ X, wordL 1 zs 10 = X := ⟨_, rfl⟩
    have hXok : ∀ x ∈ X, okL [iota n] x := fun x hx => by rw [← hX] at hx; have := letter_gw (G := 1) zs (by decide) x hx; exact ⟨this.1, by rw [HG2.out]; omega⟩
    have hX10 : X.length ≤ 10 := by rw [← hX]; exact wordL_length _ _ _
    rw [hX]
    rintro e u1 ⟨xv, rfl, hx, hb⟩
    have hxi := hx.ints
    have sx := hxi.isSl
    have lx := hxi.len
    have HX := Lib.hid hxi; have HXO := Lib.hid hXok
    clear kn kl hX hx hxi hXok
    replace CN := Lib.hid (CN.out.below hb)
    replace CL := Lib.hid (CL.out.below hb)
    replace HV := Lib.hid (HV.out.below hb)
    replace HB := Lib.hid (Below.chain HB.out hb)
    clear hb
    have kn := CN.out.cell
    have kl := CL.out.cell
    go_wp2_with fail
    refine (gvalue_calls n NB LB (.slice (some ⟨w2.heap.size, 0, none⟩) 1 1) [gv] [iota n] xv X _ CN.out CL.out HV.out HP2.out HX.out HXO.out (by omega) (by rw [HG2.out]; omega)).mono ?_
    have hgen := valL_gen (n := n) (S := [iota n]) X HXO.out
    obtain ⟨p, hp⟩ : ∃ p, valL n [iota n] X = p := ⟨_, rfl⟩
    rw [hp] at hgen ⊢
    rintro e u2 ⟨pv, rfl, hpv, hb⟩
    have HPV := Lib.hid hpv; have HGEN := Lib.hid hgen; have HPX := Lib.hid hp
    have sp := hpv.isSl
    clear kn kl hpv hgen hp
    replace CN := Lib.hid (CN.out.below hb)
    replace CL := Lib.hid (CL.out.below hb)
    replace HV := Lib.hid (HV.out.below hb)
    replace HX := Lib.hid (HX.out.below hb)
    replace HB := Lib.hid (Below.chain HB.out hb)
    clear hb
    have kn := CN.out.cell
    have kl := CL.out.cell
    go_wp2_with fail
    refine (gcontains_calls n (.slice (some ⟨w2.heap.size, 0, none⟩) 1 1) [gv] [iota n] pv p _ HV.out HP2.out HPV.out HGEN.out (by omega) (by rw [HG2.out]; omega)).mono ?_
    rintro e u3 ⟨rfl, hb⟩
    clear kn kl
    replace CN := Lib.hid (CN.out.below hb)
    replace CL := Lib.hid (CL.out.below hb)
    replace HV := Lib.hid (HV.out.below hb)
    replace HX := Lib.hid (HX.out.below hb)
    replace HPV := Lib.hid (HPV.out.below hb)
    replace HB := Lib.hid (Below.chain HB.out hb)
    clear hb
    have kn := CN.out.cell
    have kl := CL.out.cell
    go_wp2_with fail
    refine (gfactor_calls n (.slice (some ⟨w2.heap.size, 0, none⟩) 1 1) [gv] [iota n] pv p _ HV.out HP2.out HPV.out HGEN.out (by omega) (by rw [HG2.out]; omega)).mono ?_
    rintro e u4 ⟨yv, Y, rfl, hy, hval, hYok, hshort, hb⟩
    have hlen := hshort X HXO.out HPX.out
    have hyi := hy.ints
    have sy := hyi.isSl
    have ly := hyi.len
    have hYok2 : ∀ x ∈ Y, x ≠ 0 ∧ x ≤ 1 ∧ -1 ≤ x := fun x hx => by have h1 := (hYok x hx).1; have h2 := (hYok x hx).2; rw [HG2.out] at h2; omega
    have HY := Lib.hid hyi; have HVAL := Lib.hid hval; have HYO := Lib.hid hYok; have HYO2 := Lib.hid hYok2
    clear kn kl hy hval hYok hshort hyi hYok2
    replace CN := Lib.hid (CN.out.below hb)
    replace CL := Lib.hid (CL.out.below hb)
    replace HV := Lib.hid (HV.out.below hb)
    replace HX := Lib.hid (HX.out.below hb)
    replace HPV := Lib.hid (HPV.out.below hb)
    replace HB := Lib.hid (Below.chain HB.out hb)
    clear hb
    obtain ⟨M, hM⟩ : ∃ M, Y.length = M := ⟨_, rfl⟩
    rw [hM] at ly hlen
    have HM := Lib.hid hM
    clear hM
    have kn := CN.out.cell
    have kl := CL.out.cell
    go_wp2_with fail
    refine (grouped_calls _).mono ?_
    rintro e u5 ⟨rfl, hb⟩
    clear kn kl
    replace CN := Lib.hid (CN.out.below hb)
    replace CL := Lib.hid (CL.out.below hb)
    replace HV := Lib.hid (HV.out.below hb)
    replace HX := Lib.hid (HX.out.below hb)
    replace HPV := Lib.hid (HPV.out.below hb)
    replace HY := Lib.hid (HY.out.below hb)
    replace HB := Lib.hid (Below.chain HB.out hb)
    clear hb
    have kn := CN.out.cell
    have kl := CL.out.cell
    go_wp2_with fail
    go_loop [74] (fun s => ∃ i : Nat, s = .int .i64 i ∧ i ≤ M) (fun s => M - (intOf s).toNat)
    case atStart => exact ⟨0, rfl, Nat.zero_le _⟩
    case round =>
      obtain ⟨i, rfl, hi⟩ := hrel
      by_cases hlt : i < M
      · have hiY : i < Y.length := by rw [HM.out]; exact hlt
        have cy := HY.out.cell hiY
        obtain ⟨hy1, hy2, hy3⟩ := HYO2.out _ (nth_mem hiY)
        obtain ⟨y, hy⟩ : ∃ y, nth Y i = y := ⟨_, rfl⟩
        rw [hy] at cy hy1 hy2 hy3
        clear hy
        have g1 : ¬ 1 < y := by omega
        have g2 : ¬ y < -1 := by omega
        go_wp2_with fail
        go_round
        case rel => exact ⟨_, _, _, ⟨i + 1, rfl, by omega⟩, rfl, rfl, rfl⟩
        case measure => (simp [intOf]; try omega)
      · obtain rfl : i = M := by omega
        go_wp2_with fail
        refine (gvalue_calls n NB LB (.slice (some ⟨w2.heap.size, 0, none⟩) 1 1) [gv] [iota n] yv Y _ CN.out CL.out HV.out HP2.out HY.out HYO.out (by omega) (by rw [HG2.out]; omega)).mono ?_
        rw [HVAL.out]
        rintro e u6 ⟨qv, rfl, hqv, hb⟩
        have HQV := Lib.hid hqv
        have sq := hqv.isSl
        clear kn kl hqv
        replace HPV := Lib.hid (HPV.out.below hb)
        replace HB := Lib.hid (Below.chain HB.out hb)
        clear hb
        go_wp2_with fail
        refine (equal_calls _ _ _ _ _ HQV.out HPV.out).mono ?_
        rintro e u7 ⟨rfl, hb⟩
        replace HB := Lib.hid (Below.chain HB.out hb)
        clear hb
        go_wp2_with fail
        go_ret
        exact ⟨by simp, HB.out⟩
end Go.Proofs.Ytplekfgadbjgdaa


/- permgroup.search walked: the first one of the shortest words. -/
import Derived.Test.YtplekfgadbjgdaaQTopRinging0
import Derived.Test.YtplekfgadbjgdaaQTopRinging1
import Derived.Test.YtplekfgadbjgdaaQTopRinging2
import Derived.Test.YtplekfgadbjgdaaQTopRinging3
import Derived.Test.YtplekfgadbjgdaaQTopRinging4
import Derived.Test.YtplekfgadbjgdaaQTopRinging5
import Derived.Test.YtplekfgadbjgdaaQTopRinging6
import Derived.Test.YtplekfgadbjgdaaQTopRinging8
import Derived.Test.YtplekfgadbjgdaaQTopRinging9
import Derived.Test.YtplekfgadbjgdaaQTopRinging10
import Derived.Test.YtplekfgadbjgdaaQTopRinging11
import Derived.Test.YtplekfgadbjgdaaQTopRinging12
import Derived.Test.YtplekfgadbjgdaaQTopRinging13
import Derived.Test.YtplekfgadbjgdaaQTopRinging18
import Derived.Test.YtplekfgadbjgdaaQTopRinging19
import Derived.Test.YtplekfgadbjgdaaQTopRinging20
import Derived.Test.YtplekfgadbjgdaaQTopRinging21
import Derived.Test.YtplekfgadbjgdaaQTopRinging22
import Derived.Test.YtplekfgadbjgdaaQTopRinging23
import Derived.Test.YtplekfgadbjgdaaQTopRinging24
import Derived.Test.YtplekfgadbjgdaaQTopRinging25
import Derived.Test.YtplekfgadbjgdaaQTopRinging26
import Derived.Deep.RegionHeld3
namespace Go.Proofs.Ytplekfgadbjgdaa
open Go.RowKit Go.Sl Go.Mp Go.Maps

theorem kzero (w : World) : (zeroValue 3).run Try.prog w = .ok (.int .i64 0) w := by kernel_rfl
theorem isK_pm {n : Nat} {q : List Int} (hn : n ≤ 9) (h : Pm n q) : IsK Try.prog 141 (pkV q) :=
  isK_pkV q (by rw [h.2]; exact hn) fun x hx => by
    have := h.1.range x hx
    rw [h.2] at this; omega
/-- What the map known says. -/
structure KnownM (n : Nat) (m : Value → Option Value) (F : List Way) : Prop where
  yes : ∀ b, b < F.length → ∃ z, m (pkV (wayAt F b).p) = some z
  no : ∀ q, Pm n q → (∀ b, b < F.length → (wayAt F b).p ≠ q) → m (pkV q) = none
theorem Bfs.congr {n : Nat} {S : List (List Int)} {F : List Way} {d : Nat → Nat} {i : Nat} {dn dn' : Int → Prop} (h : Bfs n S F d i dn) (hd : ∀ x, okL S x → dn' x → dn x) : Bfs n S F d i dn' :=
  ⟨h.pos, h.first, h.d0, h.step, h.uniq, h.mono, h.near, h.le, h.closed, fun x hx hok => h.now x (hd x hok hx) hok⟩
/-- The state of search at entry i. -/
structure SrM (n B fb mb : Nat) (S : List (List Int)) (p : List Int) (i : Nat) (dn : Int → Prop) (w : World) (F : List Way) (vs : List Value) (fv : Value) (d : Nat → Nat) (m : Value → Option Value) : Prop where
  fnd : FndM w B fb fv vs F
  bfs : Bfs n S F d i dn
  map : ∃ nn, MapV Try.prog 141 w mb nn m
  kn : KnownM n m F
  ne : ∀ b, b < i → (wayAt F b).p ≠ p
  lts : B ≤ fb ∧ B ≤ mb
theorem SrM.below {n B fb mb : Nat} {S : List (List Int)} {p : List Int} {i : Nat} {dn : Int → Prop} {w w' : World} {F : List Way} {vs : List Value} {fv : Value} {d : Nat → Nat} {m : Value → Option Value} (h : SrM n B fb mb S p i dn w F vs fv d m) (hb : Below w.heap.size w w') : SrM n B fb mb S p i dn w' F vs fv d m :=
  ⟨h.fnd.below hb, h.bfs, let ⟨nn, hm⟩ := h.map; ⟨nn, hm.below hb⟩, h.kn, h.ne, h.lts⟩
theorem FndM.put {w w' : World} {B fb b : Nat} {fv : Value} {vs : List Value} {F : List Way} (h : FndM w B fb fv vs F) (hm : IsMapB w b) (hg : w.grownBy w' (some b)) : FndM w' B fb fv vs F := by
  have hne : ∀ {q : Nat} {cur : Array Value} {e : TypeId}, w.heap[q]? = some (.cells cur e (0, 0)) → some q ≠ some b := fun {q cur e} hq hr => by
    injection hr with hr
    subst hr
    obtain ⟨es, c, hm⟩ := hm
    rw [hq] at hm; cases hm
  have hob : ∀ {e : TypeId} {s : Nat} {v : Value} {cs : List Value}, Go.Sl.Own w B e s v cs → Go.Sl.Own w' B e s v cs := fun {e s v cs} ho => Go.Sl.Own.of_block ho fun k hk => by
    obtain ⟨h0, rfl⟩ := row_eq hk
    obtain ⟨_, _, cur', hh, _⟩ := ho.2.2 h0
    exact hg.block _ (ho.lt _ hk).2 (hne hh)
  exact ⟨(hg.block _ h.lt (hne h.box)).trans h.box, hob h.own, h.len, fun b hb => hob (h.row b hb)⟩
theorem known_start {n : Nat} {m : Value → Option Value} {z : Value} (h1 : m (pkV (iota n)) = some z) (h2 : ∀ key, key ≠ pkV (iota n) → m key = none) (_hn : n ≤ 9) : KnownM n m [⟨iota n, 0, 0⟩] := by
  refine ⟨fun b hb => ?_, fun q hq hne => ?_⟩
  · simp at hb; subst hb; exact ⟨z, h1⟩
  · refine h2 _ fun e => hne 0 (by simp) ?_
    exact (pkV_inj (by rw [hq.2, iota_length]) e).symm
theorem info_way : (Try.prog.info? 138).map (fun i => (i.zero, i.size, i.bytes)) = some (some (.agg #[.slice none 0 0, .int .i64 0, .int .i64 0]), 3, 40) := by kernel_rfl
theorem sl_way {w : World} {b : Nat} {x y z : Value} {e : TypeId} (h : w.heap[b]? = some (.cells #[x, y, z] e (0, 0))) : Go.Sl.Sl w (.slice (some ⟨b, 0, none⟩) 1 1) 3 [x, y, z] := by
  refine ⟨isSl_mk _ _ _ _ (Nat.le_refl _) (by unfold maxLen; omega), by simp, fun j u hu => ?_⟩
  have hj : j < 3 := (List.getElem?_eq_some_iff.1 hu).1
  rw [vat_mk, Nat.zero_add]
  obtain rfl | rfl | rfl : j = 0 ∨ j = 1 ∨ j = 2 := by omega
  all_goals (simp at hu; subst hu; simp [World.cell?, h])
theorem blk_type {w : World} {B : Nat} {e e' : TypeId} {s : Nat} {v : Value} {cs : List Value} (ho : Go.Sl.Own w B e s v cs) {q : Nat} {cur : Array Value} (hq : w.heap[q]? = some (.cells cur e' (0, 0))) (hne : e' ≠ e) : Go.Sl.row v ≠ some q := fun hr => by
  obtain ⟨h0, rfl⟩ := row_eq hr
  obtain ⟨_, _, cur', hh, _⟩ := ho.2.2 h0
  rw [hh] at hq
  injection hq with hq
  injection hq with h1 h2
  exact hne h2.symm
theorem blk_map {w : World} {B : Nat} {e : TypeId} {s : Nat} {v : Value} {cs : List Value} (ho : Go.Sl.Own w B e s v cs) {q : Nat} (hm : IsMapB w q) : Go.Sl.row v ≠ some q := fun hr => by
  obtain ⟨h0, rfl⟩ := row_eq hr
  obtain ⟨_, _, cur', hh, _⟩ := ho.2.2 h0
  obtain ⟨es, c, hm⟩ := hm
  rw [hh] at hm; cases hm
theorem FndM.pushed {w w9 : World} {B fb : Nat} {fv v9 qv : Value} {vs : List Value} {F : List Way} {x : Way} (h : FndM w B fb fv vs F) (hq : OwnI w B qv x.p) (ho : Go.Sl.Own w9 B 138 3 v9 (wcs vs F ++ [qv, .int .i64 x.fr, .int .i64 x.lt])) (hg : w.grownBy w9 (Go.Sl.row fv)) :
    FndM (w9.setCell ⟨fb, 0, none⟩ v9) B fb v9 (vs ++ [qv]) (F ++ [x]) := by
  have hb9 : w9.heap[fb]? = some (.cells #[fv] 139 (0, 0)) := (hg.block _ h.lt (Ne.symm (blk_type h.own h.box (by decide)))).trans h.box
  have hint : ∀ {v : Value} {xs : List Int}, OwnI w B v xs → OwnI (w9.setCell ⟨fb, 0, none⟩ v9) B v xs := fun {v xs} hv => by
    have h1 : OwnI w9 B v xs := Go.Sl.Own.of_block hv fun k hk => hg.block k (hv.lt k hk).2 fun e => by
      obtain ⟨h0, rfl⟩ := row_eq hk
      obtain ⟨_, _, cur', hh, _⟩ := hv.2.2 h0
      exact blk_type h.own hh (by decide) e.symm
    exact h1.setOther (fun k hk e => by
      have e2 : fb = k := e
      subst e2
      exact blk_type h1 hb9 (by decide) hk) _
  refine ⟨one_setCell hb9, ?_, by rw [List.length_append, List.length_append, h.len]; rfl, fun b hb => ?_⟩
  · rw [← wcs_append vs F h.len]
    exact Go.Sl.Own.setOther ho (fun k hk e => by
      have e2 : fb = k := e
      subst e2
      exact blk_type ho hb9 (by decide) hk) _
  · rw [List.length_append] at hb
    simp only [List.length_cons, List.length_nil] at hb
    rcases Nat.lt_or_ge b F.length with h1 | h1
    · rw [wayAt_old h1, show nthv (vs ++ [qv]) b = nthv vs b by simp [nthv, List.getElem?_append, h.len, h1]]
      exact hint (h.row b h1)
    · obtain rfl : b = F.length := by omega
      rw [wayAt_new, show nthv (vs ++ [qv]) F.length = qv by simp [nthv, ← h.len]]
      exact hint hq
theorem KnownM.push {n : Nat} {m m' : Value → Option Value} {F : List Way} {x : Way} {z : Value} (h : KnownM n m F) (hx : Pm n x.p) (hF : ∀ b, b < F.length → Pm n (wayAt F b).p) (h1 : m' (pkV x.p) = some z) (h2 : ∀ key, key ≠ pkV x.p → m' key = m key) : KnownM n m' (F ++ [x]) := by
  have key : ∀ q, Pm n q → q ≠ x.p → pkV q ≠ pkV x.p := fun q hq hne e => hne (pkV_inj (by rw [hq.2, hx.2]) e)
  refine ⟨fun b hb => ?_, fun q hq hne => ?_⟩
  · rw [List.length_append] at hb
    simp only [List.length_cons, List.length_nil] at hb
    rcases Nat.lt_or_ge b F.length with hl | hl
    · rw [wayAt_old hl]
      by_cases e : (wayAt F b).p = x.p
      · rw [e]; exact ⟨z, h1⟩
      · rw [h2 _ (key _ (hF b hl) e)]; exact h.yes b hl
    · obtain rfl : b = F.length := by omega
      rw [wayAt_new]; exact ⟨z, h1⟩
  · have hx2 : q ≠ x.p := fun e => hne F.length (by simp) (by rw [wayAt_new, e])
    rw [h2 _ (key q hq hx2)]
    exact h.no q hq fun b hb e => hne b (by rw [List.length_append]; omega) (by rw [wayAt_old hb]; exact e)
theorem step_storeK {o : Oper} {a : Act} {w : World} {b nn : Nat} {m : Value → Option Value} {K' : Act → World → Prop} {Q : Exit → Act → World → Prop} (x y v : Operand) (hop : o.op = Op.mapUpdate 143 x y v) (hx : a.eval x = .map (some b)) (h : MapV Try.prog 141 w b nn m) {key val : Value} (hy : a.eval y = key) (hv : a.eval v = val) (hk : IsK Try.prog 141 key)
    (hK : ∀ w' m', MapV Try.prog 141 w' b (if (m key).isSome then nn else nn + 1) m' → m' key = some val → (∀ key', key' ≠ key → m' key' = m key') → w.grownBy w' (some b) → K' (a.put o.dst undef) w') : o.wp Try.prog a w K' Q := by
  obtain ⟨w', m', hrun, r1, r2, r3, r4, r5⟩ := h.store pkey Try.underlying143 val hk
  unfold Oper.wp
  simp [execOp, hop, hx, hy, hv, hrun, Result.andThen]
  exact hK w' m' r1 r2 r3 r4
theorem genL_pos {S : List (List Int)} {k : Nat} (h : k < S.length) : genL S ((k : Int) + 1) = S[k] ∧ genL S (-((k : Int) + 1)) = backL S[k] := by
  unfold genL
  rw [if_neg (by omega), if_pos (by omega), show ((k : Int) + 1).natAbs - 1 = k by omega, show (-((k : Int) + 1)).natAbs - 1 = k by omega, List.getD_eq_getElem?_getD, List.getElem?_eq_getElem h]
  exact ⟨rfl, rfl⟩
def dnC (k c : Nat) (x : Int) : Prop := x.natAbs ≤ k ∨ (1 ≤ c ∧ x = (k : Int) + 1) ∨ (2 ≤ c ∧ x = -((k : Int) + 1))

set_option maxHeartbeats 16000000 in
set_option maxRecDepth 100000 in
theorem search_calls (n : Nat) (gv : Value) (gvs : List Value) (S : List (List Int)) (pv : Value) (p : List Int) (w : World) (hr : RowsV w gv gvs S) (hS : ∀ g ∈ S, Pm n g) (hp : Ints w pv p) (hG : Gen n S p) (hn : n ≤ 9) (hl : S.length ≤ 6) {K : Nat} (hc : HasCard (Gen n S) K) (hK : K ≤ 100000) :
    Calls Try.prog 87 #[.int .i64 n, gv, pv] w fun e w' => ∃ u W, e = .returned (.tuple #[u, .bool true]) ∧ OwnI w' w.heap.size u W ∧ valL n S W = p ∧ (∀ x ∈ W, okL S x) ∧ (∀ W2, (∀ x ∈ W2, okL S x) → valL n S W2 = p → W.length ≤ W2.length) ∧ Below w.heap.size w w' := by
  obtain ⟨iw, hiw, hw0, hw1, hw2⟩ := info_parts info_way
  have HIW := Lib.hid (And.intro hiw (And.intro hw0 (And.intro hw1 hw2)))
  clear hiw hw0 hw1 hw2
  have hmm := @run_makeMap Try.prog
  have sgv := hr.isSl
  have lgv := hr.len
  have spv := hp.isSl
  obtain ⟨G, hGl⟩ : ∃ G, S.length = G := ⟨_, rfl⟩
  rw [hGl] at lgv hl
  have hPp := hG.pm (by omega) hS
  have HR := Lib.hid hr; have HS := Lib.hid hS; have HP := Lib.hid hp; have HG := Lib.hid hG; have HC := Lib.hid hc; have HGL := Lib.hid hGl; have HPP := Lib.hid hPp
  clear hr hS hp hG hc hGl hPp
  go_enter Try.func87, Try.ntmps87
  go_wp2_with fail
  refine (identity_calls n _ (by omega)).mono ?_
  rintro e w1 ⟨iv, rfl, hiv, hb⟩
  have siv := hiv.isSl
  have HIV := Lib.hid hiv; have HB1 := Lib.hid hb
  clear hiv hb
  obtain ⟨z1, z2, z3, z4⟩ := alloc3 w1 (.cells #[iv, .int .i64 0, .int .i64 0] 138) (.cells #[.slice (some ⟨w1.heap.size, 0, none⟩) 1 1] 139) (.map #[] 0)
  obtain ⟨W4, hW4⟩ : ∃ W, W = ((w1.alloc (.cells #[iv, .int .i64 0, .int .i64 0] 138)).alloc (.cells #[.slice (some ⟨w1.heap.size, 0, none⟩) 1 1] 139)).alloc (.map #[] 0) := ⟨_, rfl⟩
  have mW4 : MapV Try.prog 141 W4 (w1.heap.size + 2) 0 (fun _ => none) := by
    have := mapV_made (P := Try.prog) (k := 141) ((w1.alloc (.cells #[iv, .int .i64 0, .int .i64 0] 138)).alloc (.cells #[.slice (some ⟨w1.heap.size, 0, none⟩) 1 1] 139))
    rw [World.size_alloc, World.size_alloc] at this
    rw [hW4]; exact this
  have bW4 : Below w1.heap.size w1 W4 := by rw [hW4]; exact (((Below.refl _ _).alloc (Nat.le_refl _) _).alloc (by simp) _).alloc (by simp; omega) _
  rw [← hW4] at z1 z2 z3 z4
  have hsz1 := HB1.out.size
  have fW4 : FndM W4 w.heap.size (w1.heap.size + 1) (.slice (some ⟨w1.heap.size, 0, none⟩) 1 1) [iv] [⟨iota n, 0, 0⟩] := by
    refine ⟨z4, ⟨isSl_mk _ _ _ _ (Nat.le_refl _) (by unfold maxLen; omega), rfl, fun _ => ⟨hsz1, rfl, _, z3, by simp, by simp [wcs]⟩⟩, rfl, fun b hb => ?_⟩
    simp only [List.length_cons, List.length_nil] at hb
    obtain rfl : b = 0 := by omega
    exact HIV.out.below bW4
  have c4 := fW4.cell
  have a4 : W4.cell? ⟨w1.heap.size, 0, none⟩ = some iv := fW4.at0 (j := 0) (by simp)
  have hW4' := hW4.symm
  have FW4 := Lib.hid fW4; have MW4 := Lib.hid mW4; have BW4 := Lib.hid (Below.chain HB1.out bW4); have HIV4 := Lib.hid (HIV.out.below bW4)
  clear hW4 fW4 mW4 bW4 z1 z2 z3 z4 HIV HB1
  go_wp2_with fail
  clear hW4' c4 a4
  refine (pkeyOf_calls (iota n) iv _ HIV4.out.ints (by rw [iota_length]; exact hn)).mono ?_
  rintro e w2 ⟨rfl, hb⟩
  have FW5 := Lib.hid (FW4.out.below hb); have MW5 := Lib.hid (MW4.out.below hb); have BW5 := Lib.hid (Below.chain BW4.out hb)
  clear hb FW4 MW4 BW4 HIV4
  have KI := Lib.hid (isK_pm hn (pm_one (n := n) (by omega)))
  go_wp2_with (refine wpList_insertV rfl _ _ _ 143 rfl pkey Try.underlying143 rfl MW5.out rfl rfl KI.out ?_; intro w3 m3 hm3 h31 h32 hg3 hs3)
  have hsz5 := BW5.out.size
  have b3 : Below w.heap.size w w3 := BW5.out.grown hg3 hsz5 (fun q hq => by injection hq with hq; omega)
  have st3 : SrM n w.heap.size (w1.heap.size + 1) (w1.heap.size + 2) S p 0 (fun _ => False) w3 [⟨iota n, 0, 0⟩] [iv] (.slice (some ⟨w1.heap.size, 0, none⟩) 1 1) (fun _ => 0) m3 :=
    ⟨FW5.out.put MW5.out.isMap hg3, bfs_start, ⟨_, hm3⟩, known_start h31 (fun key hk => by rw [h32 key hk]) hn, fun b hb => absurd hb (Nat.not_lt_zero _), by omega⟩
  have ST3 := Lib.hid st3; have B3 := Lib.hid b3
  clear st3 b3 hm3 h31 h32 hg3 FW5 MW5 BW5 KI
  go_loopw [11] (fun s wr => ∃ (i : Nat) (F : List Way) (vs : List Value) (fv : Value) (d : Nat → Nat) (m : Value → Option Value), s = .int .i64 i ∧ SrM n w.heap.size (w1.heap.size + 1) (w1.heap.size + 2) S p i (fun _ => False) wr F vs fv d m ∧ Below w.heap.size w wr) (fun s _ => K - (intOf s).toNat)
  case atStart => exact ⟨0, _, _, _, _, _, rfl, ST3.out, B3.out⟩
  case round =>
    obtain ⟨i, F, vs, fv, d, m, rfl, hs, hb⟩ := hrel
    have hiF := hs.bfs.le
    have hFK := hs.bfs.le_card HC.out
    have sfv := hs.fnd.own.1
    have lfv := hs.fnd.vlen
    have c0 := hs.fnd.cell
    have c1 := hs.fnd.at0 hiF
    have hri := hs.fnd.row i hiF
    obtain ⟨r, hr⟩ : ∃ r, nthv vs i = r := ⟨_, rfl⟩
    obtain ⟨P, hP⟩ : ∃ P, (wayAt F i).p = P := ⟨_, rfl⟩
    rw [hr] at c1 hri
    rw [hP] at hri
    have sr := hri.isSl
    obtain ⟨L, hL⟩ : ∃ L, F.length = L := ⟨_, rfl⟩
    rw [hL] at hiF hFK lfv
    have hPp : Pm n P := by rw [← hP]; exact (hs.bfs.gen i hs.bfs.le).pm (by omega) HS.out
    have HSR := Lib.hid hs; have HB := Lib.hid hb; have HRI := Lib.hid hri; have HRR := Lib.hid hr; have HPI := Lib.hid hP; have HLL := Lib.hid hL; have HPP2 := Lib.hid hPp
    clear hs hb hri hr hP hL hPp
    go_wp2_with fail
    refine (equal_calls r pv P p _ HRI.out.ints (HP.out.below HB.out)).mono ?_
    by_cases hPe : P = p
    · rw [decide_eq_true hPe]
      rintro e w5 ⟨rfl, hb5⟩
      have HSR5 := Lib.hid (HSR.out.below hb5); have HB5 := Lib.hid (Below.chain HB.out hb5)
      clear hb5 c0 c1
      go_wp2_with fail
      refine (gword_calls _ (w1.heap.size + 1) fv vs F i _ HSR5.out.fnd (fun b h1 h2 => (HSR5.out.bfs.step b h1 h2).1) HSR5.out.bfs.le (by rw [HLL.out]; omega)).mono ?_
      rintro e w6 ⟨u, rfl, hu, hb6⟩
      have su := hu.isSl
      have HU := Lib.hid (hu.low HB5.out.size); have HB6 := Lib.hid (Below.chain HB5.out hb6)
      clear hu hb6
      go_wp2_with fail
      obtain ⟨e1, e2, e3⟩ := HSR5.out.bfs.way F.length i HSR5.out.bfs.le HSR5.out.bfs.le
      go_ret2
      refine ⟨_, _, rfl, HU.out, by rw [e1, HPI.out, hPe], fun x hx => e3 x (by simpa using hx), fun W2 hW2 hv => ?_, HB6.out⟩
      rw [List.length_reverse, e2]
      exact HSR5.out.bfs.shortest hW2 (by rw [hv, HPI.out, hPe])
    · rw [decide_eq_false hPe]
      rintro e w5 ⟨rfl, hb5⟩
      have HSR5 := Lib.hid (HSR.out.below hb5); have HB5 := Lib.hid (Below.chain HB.out hb5)
      clear hb5 c0 c1
      go_wp2_with fail
      go_loopw [49] (fun s wk => ∃ (k : Nat) (F : List Way) (vs : List Value) (fv : Value) (d : Nat → Nat) (m : Value → Option Value), s = .int .i64 k ∧ k ≤ G ∧ (wayAt F i).p = P ∧ SrM n w.heap.size (w1.heap.size + 1) (w1.heap.size + 2) S p i (dnC k 0) wk F vs fv d m ∧ Below w.heap.size w wk) (fun s _ => G - (intOf s).toNat)
      case atStart => exact ⟨0, F, vs, fv, d, m, rfl, Nat.zero_le _, HPI.out, ⟨HSR5.out.fnd, HSR5.out.bfs.congr fun x hx hd => by
        rcases hd with h | ⟨h, _⟩ | ⟨h, _⟩
        · have := hx.1; omega
        · omega
        · omega, HSR5.out.map, HSR5.out.kn, HSR5.out.ne, HSR5.out.lts⟩, HB5.out⟩
      case round =>
        rename World => wk
        obtain ⟨k, F, vs, fv, d, m, rfl, hk, hPi, hs, hb⟩ := hrel
        by_cases hkG : k < G
        · have hkS : k < S.length := by rw [HGL.out]; exact hkG
          have hrg := HR.out.below hb
          have cg := hrg.cell (i := k) hkS
          have rg := HR.out.row (i := k) hkS
          rw [nthr_lt hkS] at rg
          obtain ⟨gr, hgr⟩ : ∃ gr, nthv gvs k = gr := ⟨_, rfl⟩
          rw [hgr] at cg rg
          obtain ⟨g, hg⟩ : ∃ g, S[k] = g := ⟨_, rfl⟩
          rw [hg] at rg
          have sgr := rg.isSl
          have hGp : Pm n g := by rw [← hg]; exact HS.out _ (List.getElem_mem hkS)
          obtain ⟨gl1, gl2⟩ := genL_pos hkS
          rw [hg] at gl1 gl2
          have HSK := Lib.hid hs; have HBK := Lib.hid hb; have HRG := Lib.hid rg; have HGP := Lib.hid hGp; have GL1 := Lib.hid gl1; have GL2 := Lib.hid gl2; have HPK := Lib.hid hPi
          have hk6 : k ≤ 6 := by omega
          clear hs hb hrg rg hgr hg hGp gl1 gl2 hPi hkS
          go_wp2_with fail
          clear cg
          go_loopw [61] (fun s wc => ∃ (c : Nat) (F : List Way) (vs : List Value) (fv : Value) (d : Nat → Nat) (m : Value → Option Value), s = .int .i64 c ∧ c ≤ 2 ∧ (wayAt F i).p = P ∧ SrM n w.heap.size (w1.heap.size + 1) (w1.heap.size + 2) S p i (dnC k c) wc F vs fv d m ∧ wc.heap[wk.heap.size]? = some (.cells #[.int .i64 ((k : Int) + 1), .int .i64 (-(k : Int) - 1)] 3 (0, 0)) ∧ Below w.heap.size w wc) (fun s _ => 2 - (intOf s).toNat)
          case atStart => exact ⟨0, F, vs, fv, d, m, rfl, by omega, HPK.out, HSK.out.below ((Below.refl _ _).alloc (Nat.le_refl _) _), heap_alloc_new _ _, HBK.out.alloc HBK.out.size _⟩
          case round =>
            rename World => wc
            obtain ⟨c, F, vs, fv, d, m, rfl, hc2, hPi, hs, hlb, hbk⟩ := hrel
            have hiF := hs.bfs.le
            have sfv := hs.fnd.own.1
            have lfv := hs.fnd.vlen
            have c0 := hs.fnd.cell
            have c1 := hs.fnd.at0 hiF
            have hri := hs.fnd.row i hiF
            obtain ⟨r, hr⟩ : ∃ r, nthv vs i = r := ⟨_, rfl⟩
            rw [hr] at c1 hri
            rw [hPi] at hri
            have sr := hri.isSl
            have hFK := hs.bfs.le_card HC.out
            have hFpm : ∀ b, b < F.length → Pm n (wayAt F b).p := fun b hb => (hs.bfs.gen b hb).pm (by omega) HS.out
            have cl0 : wc.cell? ⟨wk.heap.size, 0, none⟩ = some (.int .i64 ((k : Int) + 1)) := by simp [World.cell?, hlb]
            have cl1 : wc.cell? ⟨wk.heap.size, 1, none⟩ = some (.int .i64 (-(k : Int) - 1)) := by simp [World.cell?, hlb]
            obtain ⟨L2, hL2⟩ : ∃ L, F.length = L := ⟨_, rfl⟩
            rw [hL2] at hiF hFK lfv
            have HSC := Lib.hid hs; have HLB := Lib.hid hlb; have HBC := Lib.hid hbk; have HRI2 := Lib.hid hri; have HL2 := Lib.hid hL2; have HRV := Lib.hid hr; have HPC := Lib.hid hPi; have HFP := Lib.hid hFpm
            clear hs hlb hbk hri hL2 hr hPi hFpm
            by_cases hc : c < 2
            · rcases (by omega : c = 0 ∨ c = 1) with rfl | rfl
              · go_wp2_with fail
                refine (then_calls r gr P g _ HRI2.out.ints (HRG.out.below HBC.out) (by rw [HPP2.out.2]; omega) (fun z hz => by have h1 := HPP2.out.1.range z hz; rw [HPP2.out.2] at h1; rw [HGP.out.2]; omega)).mono ?_
                rintro e wq ⟨qv, rfl, hqo, hbq⟩
                have sqv := hqo.isSl
                clear cl0 cl1
                have hq : thenL P g = thenL P (genL S ((k : Int) + 1)) := by rw [GL1.out]
                obtain ⟨q, hqe⟩ : ∃ q, thenL P g = q := ⟨_, rfl⟩
                rw [hqe] at hq hqo
                have hqp : Pm n q := by rw [← hqe]; exact HPP2.out.mul HGP.out
                obtain ⟨x, hx⟩ : ∃ x : Int, (k : Int) + 1 = x := ⟨_, rfl⟩
                rw [hx] at hq
                have hok : okL S x := ⟨by omega, by have h1 := HGL.out; omega⟩
                have HQE := Lib.hid hq; have HOK := Lib.hid hok; have HXX := Lib.hid hx; have HQP := Lib.hid hqp
                have HSQ := Lib.hid (HSC.out.below hbq); have HLQ := Lib.hid (((hbq.block _ (Array.getElem?_eq_some_iff.1 HLB.out).1).trans HLB.out)); have HBQ := Lib.hid (Below.chain HBC.out hbq); have HQO := Lib.hid (hqo.low HBC.out.size)
                clear hq hqe hqo hqp hok hbq HSC HLB HBC HRI2
                have hxk : x = (k : Int) + 1 := hx.symm
                clear hx
                go_wp2_with fail
                refine (pkeyOf_calls q qv _ HQO.out.ints (by rw [HQP.out.2]; exact hn)).mono ?_
                rintro e wl ⟨rfl, hb7⟩
                replace HLQ := Lib.hid (((hb7.block _ (Array.getElem?_eq_some_iff.1 HLQ.out).1).trans HLQ.out)); replace HBQ := Lib.hid (Below.chain HBQ.out hb7); replace HQO := Lib.hid (HQO.out.below hb7); replace HSQ := Lib.hid (HSQ.out.below hb7)
                clear hb7
                obtain ⟨nn, hmv⟩ := HSQ.out.map
                have hlk := hmv.look true pkey Try.underlying143 (kzero wl) (isK_pm hn HQP.out)
                rw [if_pos rfl] at hlk
                cases hmq : m (pkV q) with
                | some z =>
                  rw [hmq] at hlk
                  simp only [Option.getD_some, Option.isSome_some] at hlk
                  have hex : ∃ b, b < F.length ∧ (wayAt F b).p = q := Classical.byContradiction fun hno => by
                    have := HSQ.out.kn.no q HQP.out fun b hb e => hno ⟨b, hb, e⟩
                    rw [this] at hmq; cases hmq
                  obtain ⟨b, hb1, hb2⟩ := hex
                  have hnw := HSQ.out.bfs.known (x := x) hb1 (by rw [hb2, HPC.out, HQE.out])
                  have HR8 := Lib.hid (show (wayAt F i).p = P ∧ SrM n w.heap.size (w1.heap.size + 1) (w1.heap.size + 2) S p i (dnC k 1) wl F vs fv d m ∧ wl.heap[wk.heap.size]? = some (.cells #[.int .i64 ((k : Int) + 1), .int .i64 (-(k : Int) - 1)] 3 (0, 0)) ∧ Below w.heap.size w wl from ⟨HPC.out, ⟨HSQ.out.fnd, hnw.congr fun z hz hd => by
                      rcases hd with h | ⟨h, e⟩ | ⟨h, e⟩
                      · exact .inl (.inl h)
                      · exact .inr (by omega)
                      · omega, HSQ.out.map, HSQ.out.kn, HSQ.out.ne, HSQ.out.lts⟩, HLQ.out, HBQ.out⟩)
                  clear hmv hnw hb2 hmq
                  go_wp2_with fail
                  go_roundw
                  case rel => exact ⟨1, F, vs, fv, d, m, by go_num, by omega, HR8.out⟩
                  case measure => (simp [intOf]; try omega)
                | none =>
                  subst hxk
                  rw [hmq] at hlk
                  simp only [Option.getD_none, Option.isSome_none] at hlk
                  have hno : ∀ b, b < F.length → (wayAt F b).p ≠ q := fun b hb e => by
                    obtain ⟨z, hz⟩ := HSQ.out.kn.yes b hb
                    rw [e, hmq] at hz; cases hz
                  clear hmv
                  go_wp2_with fail
                  refine wp_region_held_drew (S := fun W => W.cell? ⟨(w1.heap.size + 1), 0, none⟩ = some fv) (by kernel_rfl) ((HSQ.out.fnd.below (Below.refl _ _).drew).cell) (fun hHeld => ?_)
                  have BEL : Below (World.heap wl).size wl (World.drew wl) := (Below.refl _ _).drew
                  obtain ⟨y0, hy0⟩ : ∃ y0, y0 = World.drew wl := ⟨_, rfl⟩
                  rw [← hy0] at BEL  ⊢
                  (try rw [← hy0] at hHeld)
                  clear hy0
                  refine' wpAnyH_take (i := 0) (oi := ?oiz1) (v := ?vz1) ?haz1 (by kernel_rfl) ?hfz1 ?hrz1 ?hQz1 (Or.inl ⟨?hwz1, ?hyz1⟩) (by assumption) ?restz1
                  case haz1 => (simp only [List.getElem?_toArray, List.getElem?_cons_zero]; exact rfl)
                  case hQz1 => exact fun _ _ _ h => h
                  case hfz1 => kernel_rfl
                  case hrz1 => kernel_rfl
                  case hwz1 => rfl
                  case hyz1 => (intro w hSw; (try dsimp only at hSw); have e0 := hSw; go_simp; (try with_reducible rfl))
                  try simp only [Act.put, List.setIfInBounds_toArray, List.set_cons_zero, List.set_cons_succ]
                  refine' wpAnyH_take (i := 1) (oi := ?oiz2) (v := ?vz2) ?haz2 (by kernel_rfl) ?hfz2 ?hrz2 ?hQz2 (Or.inl ⟨?hwz2, ?hyz2⟩) (by assumption) ?restz2
                  case haz2 => (simp only [List.getElem?_toArray, List.getElem?_cons_succ, List.getElem?_cons_zero]; exact rfl)
                  case hQz2 => exact fun _ _ _ h => h
                  case hfz2 => kernel_rfl
                  case hrz2 => kernel_rfl
                  case hwz2 => rfl
                  case hyz2 => (intro w hSw; (try dsimp only at hSw); have e0 := hSw; go_simp; (try with_reducible rfl))
                  try simp only [Act.put, List.setIfInBounds_toArray, List.set_cons_zero, List.set_cons_succ]
                  refine' wpAnyH_take (i := 3) (oi := ?oiz3) (v := ?vz3) ?haz3 (by kernel_rfl) ?hfz3 ?hrz3 ?hQz3 (Or.inl ⟨?hwz3, ?hyz3⟩) (by assumption) ?restz3
                  case haz3 => (simp only [List.getElem?_toArray, List.getElem?_cons_succ, List.getElem?_cons_zero]; exact rfl)
                  case hQz3 => exact fun _ _ _ h => h
                  case hfz3 => kernel_rfl
                  case hrz3 => kernel_rfl
                  case hwz3 => rfl
                  case hyz3 => (intro w hSw; (try dsimp only at hSw); have e0 := hSw; go_simp; (try with_reducible rfl))
                  try simp only [Act.put, List.setIfInBounds_toArray, List.set_cons_zero, List.set_cons_succ]
                  refine' wpAnyH_take (i := 4) (oi := ?oiz4) (v := ?vz4) ?haz4 (by kernel_rfl) ?hfz4 ?hrz4 ?hQz4 (Or.inl ⟨?hwz4, ?hyz4⟩) (by assumption) ?restz4
                  case haz4 => (simp only [List.getElem?_toArray, List.getElem?_cons_succ, List.getElem?_cons_zero]; exact rfl)
                  case hQz4 => exact fun _ _ _ h => h
                  case hfz4 => kernel_rfl
                  case hrz4 => kernel_rfl
                  case hwz4 => rfl
                  case hyz4 => (intro w hSw; (try dsimp only at hSw); have e0 := hSw; go_simp; (try with_reducible rfl))
                  try simp only [Act.put, List.setIfInBounds_toArray, List.set_cons_zero, List.set_cons_succ]
                  refine wpAnyH_ready (rs := [2]) (by kernel_rfl) (by simp) ?_
                  refine' AllReadyH.cons (o := ?oiz6) ?haz6 (fun K hK => ?stepz6) AllReadyH.nil
                  case haz6 => (simp only [List.getElem?_toArray, List.getElem?_cons_succ, List.getElem?_cons_zero]; exact rfl)
                  go_simp
                  go_at_call 121
                  refine (pkeyOf_calls q qv y0 (HQO.out.below BEL).ints (by rw [HQP.out.2]; exact hn)).mono ?_
                  rintro e y1 ⟨rfl, sb⟩
                  replace BEL := Below.chain BEL sb
                  clear sb
                  refine hK.out _ _ ((HSQ.out.fnd.below BEL).cell) (fun hHeld => ?_)
                  clear hK K
                  try simp only [Act.put, List.setIfInBounds_toArray, List.set_cons_zero, List.set_cons_succ]
                  refine wpAnyH_ready (rs := [5]) (by kernel_rfl) (by simp) ?_
                  refine' AllReadyH.cons (o := ?oiz5) ?haz5 (fun K hK => ?stepz5) AllReadyH.nil
                  case haz5 => (simp only [List.getElem?_toArray, List.getElem?_cons_succ, List.getElem?_cons_zero]; exact rfl)

                  rw [if_pos (by rfl)]
                  obtain ⟨nn2, hmv2⟩ := HSQ.out.map
                  refine step_storeK (.tmp 91) (.tmp 93) (.tmp 95) rfl rfl (hmv2.below BEL) (key := pkV q) rfl rfl (isK_pm hn HQP.out) ?_
                  intro y9 m9 hm9 hk9 ho9 hg9
                  have hf9 := (HSQ.out.fnd.below BEL).put (hmv2.below BEL).isMap hg9
                  have kc9 := hf9.cell
                  refine hK.out _ _ (kc9) (fun hHeld => ?_)
                  clear hK K
                  try simp only [Act.put]
                  refine wpAnyH_done (by kernel_rfl) ?_ _
                  have HF9 := Lib.hid hf9; have HM9 := Lib.hid hm9; have HK9 := Lib.hid hk9; have HO9 := Lib.hid ho9
                  have bcur := Below.chain HBQ.out BEL
                  have hmb := HSQ.out.lts.2
                  have HB9 := Lib.hid (bcur.grown hg9 bcur.size (fun q hq => by injection hq with hq; omega))
                  have him := (hmv2.below BEL).isMap
                  have HQ9 := Lib.hid (show OwnI y9 w.heap.size qv q from Go.Sl.Own.of_block (HQO.out.below BEL) fun k hk => hg9.block k ((HQO.out.below BEL).lt k hk).2 fun e => by injection e with e; subst e; exact blk_map (HQO.out.below BEL) him hk)
                  have hlc := (BEL.block _ (Array.getElem?_eq_some_iff.1 HLQ.out).1).trans HLQ.out
                  have HL9 := Lib.hid ((hg9.block _ (Array.getElem?_eq_some_iff.1 hlc).1 (fun e => by
                    injection e with e
                    obtain ⟨es, c, hm⟩ := him
                    rw [← e, hlc] at hm; cases hm)).trans hlc)
                  clear hf9 hm9 hk9 ho9 hg9 hmv2 bcur him hlc
                  have hsz9 := HB9.out.size
                  go_wp2_with (at_builtin; refine wpList_append_sl (v := fv) (y := .slice (some ⟨y9.heap.size, 0, none⟩) 1 1) rfl (.tmp 96) (.tmp 101) 139 rfl w.heap.size 138 iw (.agg #[.slice none 0 0, .int .i64 0, .int .i64 0]) 3 40 Try.underlying139 HIW.out.1 HIW.out.2.1 HIW.out.2.2.1 HIW.out.2.2.2 rfl (by decide) rfl rfl (Go.Sl.Own.alloc HF9.out.own _) (sl_way (heap_alloc_new y9 _)) (by intro z hz; simp at hz; rcases hz with rfl | rfl | rfl; exact oneCell'_sl sqv; rfl; rfl) (by simp only [vlen_mk, lfv, maxLen]; omega) (by simp only [vlen_mk, lfv]; omega) (by simp; omega) ?_; intro v9 z9 ho9 hg9 hr9; have s9 := ho9.1; have gg : y9.grownBy z9 (row fv) := ⟨hg9.os, hg9.tape, hg9.output, by have := hg9.size; simp at this; omega, fun k hk hr => (hg9.block k (by simp; omega) hr).trans (Below.heap_alloc y9 _ k hk)⟩; have bx9 : z9.heap[(w1.heap.size + 1)]? = some (.cells #[fv] 139 (0, 0)) := (gg.block _ HF9.out.lt (Ne.symm (blk_type HF9.out.own HF9.out.box (by decide)))).trans HF9.out.box; have k9 := cell_of_one bx9; have f9 := free_of_one bx9)
                  have hpu := HF9.out.pushed (x := ⟨q, i, ((k : Int) + 1)⟩) HQ9.out ho9 gg
                  have hnew := HSQ.out.bfs.new HOK.out (fun b hb => by rw [HPC.out, ← HQE.out]; exact hno b hb)
                  rw [HPC.out, ← HQE.out] at hnew
                  have hz9 := gg.size
                  have him9 := HM9.out.isMap
                  have hmz : MapV Try.prog 141 (z9.setCell ⟨(w1.heap.size + 1), 0, none⟩ v9) (w1.heap.size + 2) (if (m (pkV q)).isSome then nn2 else nn2 + 1) m9 := by
                    have h1 := HM9.out.kept gg (fun e => blk_map HF9.out.own him9 e.symm)
                    obtain ⟨es, c, h2, r⟩ := h1
                    exact ⟨es, c, (Below.heap_setCell z9 ⟨(w1.heap.size + 1), 0, none⟩ v9 _ (by show (w1.heap.size + 2) ≠ (w1.heap.size + 1); omega)).trans h2, r⟩
                  have hlz : (z9.setCell ⟨(w1.heap.size + 1), 0, none⟩ v9).heap[wk.heap.size]? = some (.cells #[.int .i64 ((k : Int) + 1), .int .i64 (-(k : Int) - 1)] 3 (0, 0)) := by
                    have h1 := (gg.block _ (Array.getElem?_eq_some_iff.1 HL9.out).1 (Ne.symm (blk_type HF9.out.own HL9.out (by decide)))).trans HL9.out
                    refine (Below.heap_setCell z9 ⟨(w1.heap.size + 1), 0, none⟩ v9 _ (fun e => ?_)).trans h1
                    have e2 : wk.heap.size = (w1.heap.size + 1) := e
                    rw [← e2, h1] at bx9
                    simp at bx9
                  have hbz : Below w.heap.size w (z9.setCell ⟨(w1.heap.size + 1), 0, none⟩ v9) := (HB9.out.grown gg hsz9 (fun q hq => (HF9.out.own.lt q hq).1)).setCell (p := ⟨(w1.heap.size + 1), 0, none⟩) (show w.heap.size ≤ (w1.heap.size + 1) by omega) _
                  have HR8 := Lib.hid (show (wayAt (F ++ [⟨q, i, ((k : Int) + 1)⟩]) i).p = P ∧ SrM n w.heap.size (w1.heap.size + 1) (w1.heap.size + 2) S p i (dnC k 1) (z9.setCell ⟨(w1.heap.size + 1), 0, none⟩ v9) (F ++ [⟨q, i, ((k : Int) + 1)⟩]) (vs ++ [qv]) v9 _ m9 ∧ (z9.setCell ⟨(w1.heap.size + 1), 0, none⟩ v9).heap[wk.heap.size]? = some (.cells #[.int .i64 ((k : Int) + 1), .int .i64 (-(k : Int) - 1)] 3 (0, 0)) ∧ Below w.heap.size w (z9.setCell ⟨(w1.heap.size + 1), 0, none⟩ v9) from ⟨by rw [wayAt_old HSQ.out.bfs.le]; exact HPC.out, ⟨hpu, hnew.congr fun z hz hd => by
                        rcases hd with h | ⟨h, e⟩ | ⟨h, e⟩
                        · exact .inl (.inl h)
                        · exact .inr (by omega)
                        · omega, ⟨_, hmz⟩, HSQ.out.kn.push (x := ⟨q, i, ((k : Int) + 1)⟩) HQP.out HFP.out HK9.out HO9.out, fun b hb => by rw [wayAt_old (by have := HSQ.out.bfs.le; omega)]; exact HSQ.out.ne b hb, HSQ.out.lts⟩, hlz, hbz⟩)
                  clear hpu hnew hmz hlz hbz ho9 hg9 hr9 gg bx9 him9
                  go_wp2_with fail
                  go_roundw
                  case rel => exact ⟨1, _, _, v9, _, m9, by go_num, by omega, HR8.out⟩
                  case measure => (simp [intOf]; try omega)
              · go_wp2_with fail
                refine (then_calls r gr P g _ HRI2.out.ints (HRG.out.below HBC.out) (by rw [HPP2.out.2]; omega) (fun z hz => by have h1 := HPP2.out.1.range z hz; rw [HPP2.out.2] at h1; rw [HGP.out.2]; omega)).mono ?_
                rintro e wq ⟨q0v, rfl, hq0, hbq⟩
                have sq0 := hq0.isSl
                clear cl0 cl1 hq0 c0 c1
                have HSQ0 := Lib.hid (HSC.out.below hbq); have HLQ0 := Lib.hid (((hbq.block _ (Array.getElem?_eq_some_iff.1 HLB.out).1).trans HLB.out)); have HBQ0 := Lib.hid (Below.chain HBC.out hbq); have HRI3 := Lib.hid (HRI2.out.below hbq)
                clear hbq HSC HLB HBC HRI2
                go_wp2_with fail
                refine wp_region_held_drew (S := fun W => W.cell? ⟨(w1.heap.size + 1), 0, none⟩ = some fv ∧ W.cell? (vat fv (i * 3)) = some r) (by kernel_rfl) (⟨(HSQ0.out.fnd.below (Below.refl _ _).drew).cell, by rw [← HRV.out]; exact (HSQ0.out.fnd.below (Below.refl _ _).drew).at0 (by rw [HL2.out]; exact hiF)⟩) (fun hHeld => ?_)
                have BEL : Below (World.heap wq).size wq (World.drew wq) := (Below.refl _ _).drew
                obtain ⟨y0, hy0⟩ : ∃ y0, y0 = World.drew wq := ⟨_, rfl⟩
                rw [← hy0] at BEL  ⊢
                (try rw [← hy0] at hHeld)
                clear hy0
                refine' wpAnyH_take (i := 0) (oi := ?oiz7) (v := ?vz7) ?haz7 (by kernel_rfl) ?hfz7 ?hrz7 ?hQz7 (Or.inl ⟨?hwz7, ?hyz7⟩) (by assumption) ?restz7
                case haz7 => (simp only [List.getElem?_toArray, List.getElem?_cons_zero]; exact rfl)
                case hQz7 => exact fun _ _ _ h => h
                case hfz7 => kernel_rfl
                case hrz7 => kernel_rfl
                case hwz7 => rfl
                case hyz7 => (intro w hSw; (try dsimp only at hSw); obtain ⟨e0, e1⟩ := hSw; go_simp; (try with_reducible rfl))
                try simp only [Act.put, List.setIfInBounds_toArray, List.set_cons_zero, List.set_cons_succ]
                refine' wpAnyH_take (i := 1) (oi := ?oiz8) (v := ?vz8) ?haz8 (by kernel_rfl) ?hfz8 ?hrz8 ?hQz8 (Or.inl ⟨?hwz8, ?hyz8⟩) (by assumption) ?restz8
                case haz8 => (simp only [List.getElem?_toArray, List.getElem?_cons_succ, List.getElem?_cons_zero]; exact rfl)
                case hQz8 => exact fun _ _ _ h => h
                case hfz8 => kernel_rfl
                case hrz8 => kernel_rfl
                case hwz8 => rfl
                case hyz8 => (intro w hSw; (try dsimp only at hSw); obtain ⟨e0, e1⟩ := hSw; go_simp; (try with_reducible rfl))
                try simp only [Act.put, List.setIfInBounds_toArray, List.set_cons_zero, List.set_cons_succ]
                refine' wpAnyH_take (i := 2) (oi := ?oiz9) (v := ?vz9) ?haz9 (by kernel_rfl) ?hfz9 ?hrz9 ?hQz9 (Or.inl ⟨?hwz9, ?hyz9⟩) (by assumption) ?restz9
                case haz9 => (simp only [List.getElem?_toArray, List.getElem?_cons_succ, List.getElem?_cons_zero]; exact rfl)
                case hQz9 => exact fun _ _ _ h => h
                case hfz9 => kernel_rfl
                case hrz9 => kernel_rfl
                case hwz9 => rfl
                case hyz9 => (intro w hSw; (try dsimp only at hSw); obtain ⟨e0, e1⟩ := hSw; go_simp; (try with_reducible rfl))
                try simp only [Act.put, List.setIfInBounds_toArray, List.set_cons_zero, List.set_cons_succ]
                refine' wpAnyH_take (i := 3) (oi := ?oiz10) (v := ?vz10) ?haz10 (by kernel_rfl) ?hfz10 ?hrz10 ?hQz10 (Or.inl ⟨?hwz10, ?hyz10⟩) (by assumption) ?restz10
                case haz10 => (simp only [List.getElem?_toArray, List.getElem?_cons_succ, List.getElem?_cons_zero]; exact rfl)
                case hQz10 => exact fun _ _ _ h => h
                case hfz10 => kernel_rfl
                case hrz10 => kernel_rfl
                case hwz10 => rfl
                case hyz10 => (intro w hSw; (try dsimp only at hSw); obtain ⟨e0, e1⟩ := hSw; go_simp; (try with_reducible rfl))
                try simp only [Act.put, List.setIfInBounds_toArray, List.set_cons_zero, List.set_cons_succ]
                refine' wpAnyH_take (i := 4) (oi := ?oiz11) (v := ?vz11) ?haz11 (by kernel_rfl) ?hfz11 ?hrz11 ?hQz11 (Or.inl ⟨?hwz11, ?hyz11⟩) (by assumption) ?restz11
                case haz11 => (simp only [List.getElem?_toArray, List.getElem?_cons_succ, List.getElem?_cons_zero]; exact rfl)
                case hQz11 => exact fun _ _ _ h => h
                case hfz11 => kernel_rfl
                case hrz11 => kernel_rfl
                case hwz11 => rfl
                case hyz11 => (intro w hSw; (try dsimp only at hSw); obtain ⟨e0, e1⟩ := hSw; go_simp; (try with_reducible rfl))
                try simp only [Act.put, List.setIfInBounds_toArray, List.set_cons_zero, List.set_cons_succ]
                refine' wpAnyH_take (i := 5) (oi := ?oiz12) (v := ?vz12) ?haz12 (by kernel_rfl) ?hfz12 ?hrz12 ?hQz12 (Or.inl ⟨?hwz12, ?hyz12⟩) (by assumption) ?restz12
                case haz12 => (simp only [List.getElem?_toArray, List.getElem?_cons_succ, List.getElem?_cons_zero]; exact rfl)
                case hQz12 => exact fun _ _ _ h => h
                case hfz12 => kernel_rfl
                case hrz12 => kernel_rfl
                case hwz12 => rfl
                case hyz12 => (intro w hSw; (try dsimp only at hSw); obtain ⟨e0, e1⟩ := hSw; go_simp; (try with_reducible rfl))
                try simp only [Act.put, List.setIfInBounds_toArray, List.set_cons_zero, List.set_cons_succ]
                refine wpAnyH_ready (rs := [6]) (by kernel_rfl) (by simp) ?_
                refine' AllReadyH.cons (o := ?oiz21) ?haz21 (fun K hK => ?stepz21) AllReadyH.nil
                case haz21 => (simp only [List.getElem?_toArray, List.getElem?_cons_succ, List.getElem?_cons_zero]; exact rfl)
                go_simp
                go_at_call 84
                refine (back_calls gr g y0 (HRG.out.below (Below.chain HBQ0.out BEL)) HGP.out.1).mono ?_
                rintro e y1 ⟨bv, rfl, hbv, sb⟩
                have sbv := hbv.isSl
                have ibv := hbv.ints
                clear hbv
                replace BEL := Below.chain BEL sb
                clear sb
                refine hK.out _ _ (⟨(HSQ0.out.fnd.below BEL).cell, by rw [← HRV.out]; exact (HSQ0.out.fnd.below BEL).at0 (by rw [HL2.out]; exact hiF)⟩) (fun hHeld => ?_)
                clear hK K
                try simp only [Act.put, List.setIfInBounds_toArray, List.set_cons_zero, List.set_cons_succ]
                refine wpAnyH_ready (rs := [7]) (by kernel_rfl) (by simp) ?_
                refine' AllReadyH.cons (o := ?oiz20) ?haz20 (fun K hK => ?stepz20) AllReadyH.nil
                case haz20 => (simp only [List.getElem?_toArray, List.getElem?_cons_succ, List.getElem?_cons_zero]; exact rfl)
                go_simp
                go_at_call 120
                refine (then_calls r bv P (backL g) y1 ((HRI3.out.below BEL).ints) ibv (by rw [HPP2.out.2]; omega) (fun z hz => by have h1 := HPP2.out.1.range z hz; rw [HPP2.out.2] at h1; rw [HGP.out.back.2]; omega)).mono ?_
                rintro e y2 ⟨qv, rfl, hqo, sb⟩
                have sqv := hqo.isSl
                replace hqo := hqo.low (B' := w.heap.size) (Nat.le_trans HBQ0.out.size BEL.size)
                clear ibv
                replace BEL := Below.chain BEL sb
                clear sb
                refine hK.out _ _ (⟨(HSQ0.out.fnd.below BEL).cell, by rw [← HRV.out]; exact (HSQ0.out.fnd.below BEL).at0 (by rw [HL2.out]; exact hiF)⟩) (fun hHeld => ?_)
                clear hK K
                try simp only [Act.put, List.setIfInBounds_toArray, List.set_cons_zero, List.set_cons_succ]
                refine' wpAnyH_take (i := 8) (oi := ?oiz13) (v := ?vz13) ?haz13 (by kernel_rfl) ?hfz13 ?hrz13 ?hQz13 (Or.inl ⟨?hwz13, ?hyz13⟩) (by assumption) ?restz13
                case haz13 => (simp only [List.getElem?_toArray, List.getElem?_cons_succ, List.getElem?_cons_zero]; exact rfl)
                case hQz13 => exact fun _ _ _ h => h
                case hfz13 => kernel_rfl
                case hrz13 => kernel_rfl
                case hwz13 => rfl
                case hyz13 => (intro w hSw; (try dsimp only at hSw); obtain ⟨e0, e1⟩ := hSw; go_simp; (try with_reducible rfl))
                try simp only [Act.put, List.setIfInBounds_toArray, List.set_cons_zero, List.set_cons_succ]
                refine wpAnyH_done (by kernel_rfl) ?_ _
                have hq : thenL P (backL g) = thenL P (genL S (-((k : Int) + 1))) := by rw [GL2.out]
                obtain ⟨q, hqe⟩ : ∃ q, thenL P (backL g) = q := ⟨_, rfl⟩
                rw [hqe] at hq hqo
                have hqp : Pm n q := by rw [← hqe]; exact HPP2.out.mul HGP.out.back
                obtain ⟨x, hx⟩ : ∃ x : Int, -((k : Int) + 1) = x := ⟨_, rfl⟩
                rw [hx] at hq
                have hok : okL S x := ⟨by omega, by have h1 := HGL.out; omega⟩
                have HQE := Lib.hid hq; have HOK := Lib.hid hok; have HQP := Lib.hid hqp
                have HSQ := Lib.hid (HSQ0.out.below BEL); have HLQ := Lib.hid (((BEL.block _ (Array.getElem?_eq_some_iff.1 HLQ0.out).1).trans HLQ0.out)); have HBQ := Lib.hid (Below.chain HBQ0.out BEL); have HQO := Lib.hid hqo
                have hxk : x = -(k : Int) - 1 := by omega
                clear hq hqe hqo hqp hok HSQ0 HLQ0 HBQ0 HRI3 hx BEL
                go_wp2_with fail
                refine (pkeyOf_calls q qv _ HQO.out.ints (by rw [HQP.out.2]; exact hn)).mono ?_
                rintro e wl ⟨rfl, hb7⟩
                replace HLQ := Lib.hid (((hb7.block _ (Array.getElem?_eq_some_iff.1 HLQ.out).1).trans HLQ.out)); replace HBQ := Lib.hid (Below.chain HBQ.out hb7); replace HQO := Lib.hid (HQO.out.below hb7); replace HSQ := Lib.hid (HSQ.out.below hb7)
                clear hb7
                obtain ⟨nn, hmv⟩ := HSQ.out.map
                have hlk := hmv.look true pkey Try.underlying143 (kzero wl) (isK_pm hn HQP.out)
                rw [if_pos rfl] at hlk
                cases hmq : m (pkV q) with
                | some z =>
                  rw [hmq] at hlk
                  simp only [Option.getD_some, Option.isSome_some] at hlk
                  have hex : ∃ b, b < F.length ∧ (wayAt F b).p = q := Classical.byContradiction fun hno => by
                    have := HSQ.out.kn.no q HQP.out fun b hb e => hno ⟨b, hb, e⟩
                    rw [this] at hmq; cases hmq
                  obtain ⟨b, hb1, hb2⟩ := hex
                  have hnw := HSQ.out.bfs.known (x := x) hb1 (by rw [hb2, HPC.out, HQE.out])
                  have HR8 := Lib.hid (show (wayAt F i).p = P ∧ SrM n w.heap.size (w1.heap.size + 1) (w1.heap.size + 2) S p i (dnC k 2) wl F vs fv d m ∧ wl.heap[wk.heap.size]? = some (.cells #[.int .i64 ((k : Int) + 1), .int .i64 (-(k : Int) - 1)] 3 (0, 0)) ∧ Below w.heap.size w wl from ⟨HPC.out, ⟨HSQ.out.fnd, hnw.congr fun z hz hd => by
                      rcases hd with h | ⟨h, e⟩ | ⟨h, e⟩
                      · exact .inl (.inl h)
                      · exact .inl (.inr (.inl ⟨by omega, e⟩))
                      · exact .inr (by omega), HSQ.out.map, HSQ.out.kn, HSQ.out.ne, HSQ.out.lts⟩, HLQ.out, HBQ.out⟩)
                  clear hmv hnw hb2 hmq
                  go_wp2_with fail
                  go_roundw
                  case rel => exact ⟨2, F, vs, fv, d, m, by go_num, by omega, HR8.out⟩
                  case measure => (simp [intOf]; try omega)
                | none =>
                  subst hxk
                  rw [hmq] at hlk
                  simp only [Option.getD_none, Option.isSome_none] at hlk
                  have hno : ∀ b, b < F.length → (wayAt F b).p ≠ q := fun b hb e => by
                    obtain ⟨z, hz⟩ := HSQ.out.kn.yes b hb
                    rw [e, hmq] at hz; cases hz
                  clear hmv
                  go_wp2_with fail
                  refine wp_region_held_drew (S := fun W => W.cell? ⟨(w1.heap.size + 1), 0, none⟩ = some fv) (by kernel_rfl) ((HSQ.out.fnd.below (Below.refl _ _).drew).cell) (fun hHeld => ?_)
                  have BEL : Below (World.heap wl).size wl (World.drew wl) := (Below.refl _ _).drew
                  obtain ⟨y0, hy0⟩ : ∃ y0, y0 = World.drew wl := ⟨_, rfl⟩
                  rw [← hy0] at BEL  ⊢
                  (try rw [← hy0] at hHeld)
                  clear hy0
                  refine' wpAnyH_take (i := 0) (oi := ?oiz14) (v := ?vz14) ?haz14 (by kernel_rfl) ?hfz14 ?hrz14 ?hQz14 (Or.inl ⟨?hwz14, ?hyz14⟩) (by assumption) ?restz14
                  case haz14 => (simp only [List.getElem?_toArray, List.getElem?_cons_zero]; exact rfl)
                  case hQz14 => exact fun _ _ _ h => h
                  case hfz14 => kernel_rfl
                  case hrz14 => kernel_rfl
                  case hwz14 => rfl
                  case hyz14 => (intro w hSw; (try dsimp only at hSw); have e0 := hSw; go_simp; (try with_reducible rfl))
                  try simp only [Act.put, List.setIfInBounds_toArray, List.set_cons_zero, List.set_cons_succ]
                  refine' wpAnyH_take (i := 1) (oi := ?oiz15) (v := ?vz15) ?haz15 (by kernel_rfl) ?hfz15 ?hrz15 ?hQz15 (Or.inl ⟨?hwz15, ?hyz15⟩) (by assumption) ?restz15
                  case haz15 => (simp only [List.getElem?_toArray, List.getElem?_cons_succ, List.getElem?_cons_zero]; exact rfl)
                  case hQz15 => exact fun _ _ _ h => h
                  case hfz15 => kernel_rfl
                  case hrz15 => kernel_rfl
                  case hwz15 => rfl
                  case hyz15 => (intro w hSw; (try dsimp only at hSw); have e0 := hSw; go_simp; (try with_reducible rfl))
                  try simp only [Act.put, List.setIfInBounds_toArray, List.set_cons_zero, List.set_cons_succ]
                  refine' wpAnyH_take (i := 3) (oi := ?oiz16) (v := ?vz16) ?haz16 (by kernel_rfl) ?hfz16 ?hrz16 ?hQz16 (Or.inl ⟨?hwz16, ?hyz16⟩) (by assumption) ?restz16
                  case haz16 => (simp only [List.getElem?_toArray, List.getElem?_cons_succ, List.getElem?_cons_zero]; exact rfl)
                  case hQz16 => exact fun _ _ _ h => h
                  case hfz16 => kernel_rfl
                  case hrz16 => kernel_rfl
                  case hwz16 => rfl
                  case hyz16 => (intro w hSw; (try dsimp only at hSw); have e0 := hSw; go_simp; (try with_reducible rfl))
                  try simp only [Act.put, List.setIfInBounds_toArray, List.set_cons_zero, List.set_cons_succ]
                  refine' wpAnyH_take (i := 4) (oi := ?oiz17) (v := ?vz17) ?haz17 (by kernel_rfl) ?hfz17 ?hrz17 ?hQz17 (Or.inl ⟨?hwz17, ?hyz17⟩) (by assumption) ?restz17
                  case haz17 => (simp only [List.getElem?_toArray, List.getElem?_cons_succ, List.getElem?_cons_zero]; exact rfl)
                  case hQz17 => exact fun _ _ _ h => h
                  case hfz17 => kernel_rfl
                  case hrz17 => kernel_rfl
                  case hwz17 => rfl
                  case hyz17 => (intro w hSw; (try dsimp only at hSw); have e0 := hSw; go_simp; (try with_reducible rfl))
                  try simp only [Act.put, List.setIfInBounds_toArray, List.set_cons_zero, List.set_cons_succ]
                  refine wpAnyH_ready (rs := [2]) (by kernel_rfl) (by simp) ?_
                  refine' AllReadyH.cons (o := ?oiz19) ?haz19 (fun K hK => ?stepz19) AllReadyH.nil
                  case haz19 => (simp only [List.getElem?_toArray, List.getElem?_cons_succ, List.getElem?_cons_zero]; exact rfl)
                  go_simp
                  go_at_call 121
                  refine (pkeyOf_calls q qv y0 (HQO.out.below BEL).ints (by rw [HQP.out.2]; exact hn)).mono ?_
                  rintro e y1 ⟨rfl, sb⟩
                  replace BEL := Below.chain BEL sb
                  clear sb
                  refine hK.out _ _ ((HSQ.out.fnd.below BEL).cell) (fun hHeld => ?_)
                  clear hK K
                  try simp only [Act.put, List.setIfInBounds_toArray, List.set_cons_zero, List.set_cons_succ]
                  refine wpAnyH_ready (rs := [5]) (by kernel_rfl) (by simp) ?_
                  refine' AllReadyH.cons (o := ?oiz18) ?haz18 (fun K hK => ?stepz18) AllReadyH.nil
                  case haz18 => (simp only [List.getElem?_toArray, List.getElem?_cons_succ, List.getElem?_cons_zero]; exact rfl)

                  rw [if_pos (by rfl)]
                  obtain ⟨nn2, hmv2⟩ := HSQ.out.map
                  refine step_storeK (.tmp 91) (.tmp 93) (.tmp 95) rfl rfl (hmv2.below BEL) (key := pkV q) rfl rfl (isK_pm hn HQP.out) ?_
                  intro y9 m9 hm9 hk9 ho9 hg9
                  have hf9 := (HSQ.out.fnd.below BEL).put (hmv2.below BEL).isMap hg9
                  have kc9 := hf9.cell
                  refine hK.out _ _ (kc9) (fun hHeld => ?_)
                  clear hK K
                  try simp only [Act.put]
                  refine wpAnyH_done (by kernel_rfl) ?_ _
                  have HF9 := Lib.hid hf9; have HM9 := Lib.hid hm9; have HK9 := Lib.hid hk9; have HO9 := Lib.hid ho9
                  have bcur := Below.chain HBQ.out BEL
                  have hmb := HSQ.out.lts.2
                  have HB9 := Lib.hid (bcur.grown hg9 bcur.size (fun q hq => by injection hq with hq; omega))
                  have him := (hmv2.below BEL).isMap
                  have HQ9 := Lib.hid (show OwnI y9 w.heap.size qv q from Go.Sl.Own.of_block (HQO.out.below BEL) fun k hk => hg9.block k ((HQO.out.below BEL).lt k hk).2 fun e => by injection e with e; subst e; exact blk_map (HQO.out.below BEL) him hk)
                  have hlc := (BEL.block _ (Array.getElem?_eq_some_iff.1 HLQ.out).1).trans HLQ.out
                  have HL9 := Lib.hid ((hg9.block _ (Array.getElem?_eq_some_iff.1 hlc).1 (fun e => by
                    injection e with e
                    obtain ⟨es, c, hm⟩ := him
                    rw [← e, hlc] at hm; cases hm)).trans hlc)
                  clear hf9 hm9 hk9 ho9 hg9 hmv2 bcur him hlc
                  have hsz9 := HB9.out.size
                  go_wp2_with (at_builtin; refine wpList_append_sl (v := fv) (y := .slice (some ⟨y9.heap.size, 0, none⟩) 1 1) rfl (.tmp 96) (.tmp 101) 139 rfl w.heap.size 138 iw (.agg #[.slice none 0 0, .int .i64 0, .int .i64 0]) 3 40 Try.underlying139 HIW.out.1 HIW.out.2.1 HIW.out.2.2.1 HIW.out.2.2.2 rfl (by decide) rfl rfl (Go.Sl.Own.alloc HF9.out.own _) (sl_way (heap_alloc_new y9 _)) (by intro z hz; simp at hz; rcases hz with rfl | rfl | rfl; exact oneCell'_sl sqv; rfl; rfl) (by simp only [vlen_mk, lfv, maxLen]; omega) (by simp only [vlen_mk, lfv]; omega) (by simp; omega) ?_; intro v9 z9 ho9 hg9 hr9; have s9 := ho9.1; have gg : y9.grownBy z9 (row fv) := ⟨hg9.os, hg9.tape, hg9.output, by have := hg9.size; simp at this; omega, fun k hk hr => (hg9.block k (by simp; omega) hr).trans (Below.heap_alloc y9 _ k hk)⟩; have bx9 : z9.heap[(w1.heap.size + 1)]? = some (.cells #[fv] 139 (0, 0)) := (gg.block _ HF9.out.lt (Ne.symm (blk_type HF9.out.own HF9.out.box (by decide)))).trans HF9.out.box; have k9 := cell_of_one bx9; have f9 := free_of_one bx9)
                  have hpu := HF9.out.pushed (x := ⟨q, i, (-(k : Int) - 1)⟩) HQ9.out ho9 gg
                  have hnew := HSQ.out.bfs.new HOK.out (fun b hb => by rw [HPC.out, ← HQE.out]; exact hno b hb)
                  rw [HPC.out, ← HQE.out] at hnew
                  have hz9 := gg.size
                  have him9 := HM9.out.isMap
                  have hmz : MapV Try.prog 141 (z9.setCell ⟨(w1.heap.size + 1), 0, none⟩ v9) (w1.heap.size + 2) (if (m (pkV q)).isSome then nn2 else nn2 + 1) m9 := by
                    have h1 := HM9.out.kept gg (fun e => blk_map HF9.out.own him9 e.symm)
                    obtain ⟨es, c, h2, r⟩ := h1
                    exact ⟨es, c, (Below.heap_setCell z9 ⟨(w1.heap.size + 1), 0, none⟩ v9 _ (by show (w1.heap.size + 2) ≠ (w1.heap.size + 1); omega)).trans h2, r⟩
                  have hlz : (z9.setCell ⟨(w1.heap.size + 1), 0, none⟩ v9).heap[wk.heap.size]? = some (.cells #[.int .i64 ((k : Int) + 1), .int .i64 (-(k : Int) - 1)] 3 (0, 0)) := by
                    have h1 := (gg.block _ (Array.getElem?_eq_some_iff.1 HL9.out).1 (Ne.symm (blk_type HF9.out.own HL9.out (by decide)))).trans HL9.out
                    refine (Below.heap_setCell z9 ⟨(w1.heap.size + 1), 0, none⟩ v9 _ (fun e => ?_)).trans h1
                    have e2 : wk.heap.size = (w1.heap.size + 1) := e
                    rw [← e2, h1] at bx9
                    simp at bx9
                  have hbz : Below w.heap.size w (z9.setCell ⟨(w1.heap.size + 1), 0, none⟩ v9) := (HB9.out.grown gg hsz9 (fun q hq => (HF9.out.own.lt q hq).1)).setCell (p := ⟨(w1.heap.size + 1), 0, none⟩) (show w.heap.size ≤ (w1.heap.size + 1) by omega) _
                  have HR8 := Lib.hid (show (wayAt (F ++ [⟨q, i, (-(k : Int) - 1)⟩]) i).p = P ∧ SrM n w.heap.size (w1.heap.size + 1) (w1.heap.size + 2) S p i (dnC k 2) (z9.setCell ⟨(w1.heap.size + 1), 0, none⟩ v9) (F ++ [⟨q, i, (-(k : Int) - 1)⟩]) (vs ++ [qv]) v9 _ m9 ∧ (z9.setCell ⟨(w1.heap.size + 1), 0, none⟩ v9).heap[wk.heap.size]? = some (.cells #[.int .i64 ((k : Int) + 1), .int .i64 (-(k : Int) - 1)] 3 (0, 0)) ∧ Below w.heap.size w (z9.setCell ⟨(w1.heap.size + 1), 0, none⟩ v9) from ⟨by rw [wayAt_old HSQ.out.bfs.le]; exact HPC.out, ⟨hpu, hnew.congr fun z hz hd => by
                        rcases hd with h | ⟨h, e⟩ | ⟨h, e⟩
                        · exact .inl (.inl h)
                        · exact .inl (.inr (.inl ⟨by omega, e⟩))
                        · exact .inr (by omega), ⟨_, hmz⟩, HSQ.out.kn.push (x := ⟨q, i, (-(k : Int) - 1)⟩) HQP.out HFP.out HK9.out HO9.out, fun b hb => by rw [wayAt_old (by have := HSQ.out.bfs.le; omega)]; exact HSQ.out.ne b hb, HSQ.out.lts⟩, hlz, hbz⟩)
                  clear hpu hnew hmz hlz hbz ho9 hg9 hr9 gg bx9 him9
                  go_wp2_with fail
                  go_roundw
                  case rel => exact ⟨2, _, _, v9, _, m9, by go_num, by omega, HR8.out⟩
                  case measure => (simp [intOf]; try omega)
            · obtain rfl : c = 2 := by omega
              clear c0 c1 cl0 cl1
              have HR7 := Lib.hid (show (wayAt F i).p = P ∧ SrM n w.heap.size (w1.heap.size + 1) (w1.heap.size + 2) S p i (dnC (k + 1) 0) wc F vs fv d m ∧ Below w.heap.size w wc from ⟨HPC.out, ⟨HSC.out.fnd, HSC.out.bfs.congr fun x hx hd => by
                rcases hd with h | ⟨h, _⟩ | ⟨h, _⟩
                · by_cases e : x.natAbs ≤ k
                  · exact .inl e
                  · rcases (by omega : x = (k : Int) + 1 ∨ x = -((k : Int) + 1)) with e2 | e2
                    · exact .inr (.inl ⟨by omega, e2⟩)
                    · exact .inr (.inr ⟨by omega, e2⟩)
                · omega
                · omega, HSC.out.map, HSC.out.kn, HSC.out.ne, HSC.out.lts⟩, HBC.out⟩)
              go_wp2_with fail
              go_roundw
              case rel => exact ⟨k + 1, F, vs, fv, d, m, by go_num, by omega, HR7.out⟩
              case measure => (simp [intOf]; try omega)
        · obtain rfl : k = G := by omega
          have hall : ∀ x, okL S x → dnC k 0 x := fun x hx => .inl (by have := hx.2; rw [HGL.out] at this; exact this)
          have hne : ∀ b, b < i + 1 → (wayAt F b).p ≠ p := fun b hb => by
            rcases Nat.lt_or_ge b i with h1 | h1
            · exact hs.ne b h1
            · obtain rfl : b = i := by omega
              rw [hPi]; exact hPe
          have hnl : i + 1 < F.length := by
            have h1 := hs.bfs.le
            rcases Nat.lt_or_ge (i + 1) F.length with h2 | h2
            · exact h2
            · obtain ⟨b, hb1, hb2⟩ := hs.bfs.full hall (by omega) HG.out
              exact absurd hb2 (hne b (by omega))
          have hFK2 := hs.bfs.le_card HC.out
          have HR6 := Lib.hid (show SrM n w.heap.size (w1.heap.size + 1) (w1.heap.size + 2) S p (i + 1) (fun _ => False) wk F vs fv d m ∧ Below w.heap.size w wk from ⟨⟨hs.fnd, hs.bfs.next hall hnl, hs.map, hs.kn, hne, hs.lts⟩, hb⟩)
          clear hs hb hall hne
          go_wp2_with fail
          go_roundw
          case rel => exact ⟨i + 1, F, vs, fv, d, m, by go_num, HR6.out⟩
          case measure => (simp [intOf]; try omega)
end Go.Proofs.Ytplekfgadbjgdaa


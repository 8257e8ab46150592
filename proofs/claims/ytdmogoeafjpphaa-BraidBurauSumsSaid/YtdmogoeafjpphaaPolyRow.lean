/- Rows of polynomials, and matrices of such rows, all of the call's own. -/
import Derived.Test.YtdmogoeafjpphaaGrid
import Derived.Test.YtdmogoeafjpphaaPolyLaw
namespace Go.Proofs.Ytdmogoeafjpphaa
open Go.RowKit Go.Sl

def nthp (ps : List LP) (i : Nat) : LP := ps.getD i ⟨0, []⟩
def nthm (m : List (List LP)) (i : Nat) : List LP := m.getD i []
theorem nthp_lt {ps : List LP} {i : Nat} (h : i < ps.length) : nthp ps i = ps[i] := by simp [nthp, h]
theorem nthm_lt {m : List (List LP)} {i : Nat} (h : i < m.length) : nthm m i = m[i] := by simp [nthm, h]
theorem nthp_set {ps : List LP} {i j : Nat} {q : LP} (h : i < ps.length) : nthp (ps.set j q) i = if i = j then q else nthp ps i := by
  rw [nthp_lt (by simp; exact h), nthp_lt h, List.getElem_set]
  by_cases e : j = i
  · rw [if_pos e, if_pos e.symm]
  · rw [if_neg e, if_neg (Ne.symm e)]
theorem nthm_set {m : List (List LP)} {i j : Nat} {q : List LP} (h : i < m.length) : nthm (m.set j q) i = if i = j then q else nthm m i := by
  rw [nthm_lt (by simp; exact h), nthm_lt h, List.getElem_set]
  by_cases e : j = i
  · rw [if_pos e, if_pos e.symm]
  · rw [if_neg e, if_neg (Ne.symm e)]
theorem nthv_set {vs : List Value} {i j : Nat} {q : Value} (h : i < vs.length) : nthv (vs.set j q) i = if i = j then q else nthv vs i := by
  rw [nthv_lt (by simp; exact h), nthv_lt h, List.getElem_set]
  by_cases e : j = i
  · rw [if_pos e, if_pos e.symm]
  · rw [if_neg e, if_neg (Ne.symm e)]

/-- The cells of a row of polynomials: the lowest exponent and the slice of coefficients of each. -/
def pcs : List Value → List LP → List Value
  | u :: us, p :: ps => .int .i64 p.low :: u :: pcs us ps
  | _, _ => []
theorem pcs_length : ∀ (us : List Value) (ps : List LP), us.length = ps.length → (pcs us ps).length = ps.length * 2
  | [], [], _ => rfl
  | u :: us, p :: ps, h => by
    have := pcs_length us ps (by simpa using h)
    simp only [pcs, List.length_cons, this]; omega
theorem pcs_low : ∀ (us : List Value) (ps : List LP), us.length = ps.length → ∀ j, j < ps.length → (pcs us ps)[j * 2]? = some (.int .i64 (nthp ps j).low)
  | [], [], _, j, hj => absurd hj (by simp)
  | u :: us, p :: ps, h, 0, hj => by simp [pcs, nthp]
  | u :: us, p :: ps, h, j + 1, hj => by
    have := pcs_low us ps (by simpa using h) j (by simpa using hj)
    rw [show (j + 1) * 2 = j * 2 + 1 + 1 by omega]
    simp only [pcs, List.getElem?_cons_succ, this, nthp, List.getD_cons_succ]
theorem pcs_c : ∀ (us : List Value) (ps : List LP), us.length = ps.length → ∀ j, j < ps.length → (pcs us ps)[j * 2 + 1]? = some (nthv us j)
  | [], [], _, j, hj => absurd hj (by simp)
  | u :: us, p :: ps, h, 0, hj => by simp [pcs, nthv]
  | u :: us, p :: ps, h, j + 1, hj => by
    have := pcs_c us ps (by simpa using h) j (by simpa using hj)
    rw [show (j + 1) * 2 + 1 = j * 2 + 1 + 1 + 1 by omega]
    simp only [pcs, List.getElem?_cons_succ, this, nthv, List.getD_cons_succ]
theorem pcs_set : ∀ (us : List Value) (ps : List LP), us.length = ps.length → ∀ j, j < ps.length → ∀ (q : LP) (v : Value), ((pcs us ps).set (j * 2) (.int .i64 q.low)).set (j * 2 + 1) v = pcs (us.set j v) (ps.set j q)
  | [], [], _, j, hj, _, _ => absurd hj (by simp)
  | u :: us, p :: ps, h, 0, hj, q, v => by simp [pcs]
  | u :: us, p :: ps, h, j + 1, hj, q, v => by
    have := pcs_set us ps (by simpa using h) j (by simpa using hj) q v
    rw [show (j + 1) * 2 = j * 2 + 1 + 1 by omega]
    simp only [pcs, List.set_cons_succ, this]
theorem pcs_setC : ∀ (us : List Value) (ps : List LP), us.length = ps.length → ∀ j, j < ps.length → ∀ (v : Value), (pcs us ps).set (j * 2 + 1) v = pcs (us.set j v) ps
  | [], [], _, j, hj, _ => absurd hj (by simp)
  | u :: us, p :: ps, h, 0, hj, v => by simp [pcs]
  | u :: us, p :: ps, h, j + 1, hj, v => by
    have := pcs_setC us ps (by simpa using h) j (by simpa using hj) v
    rw [show (j + 1) * 2 + 1 = j * 2 + 1 + 1 + 1 by omega]
    simp only [pcs, List.set_cons_succ, this]
theorem pcs_append : ∀ (us : List Value) (ps : List LP), us.length = ps.length → ∀ (v : Value) (q : LP), pcs us ps ++ [.int .i64 q.low, v] = pcs (us ++ [v]) (ps ++ [q])
  | [], [], _, _, _ => rfl
  | u :: us, p :: ps, h, v, q => by
    have := pcs_append us ps (by simpa using h) v q
    simp only [pcs, List.cons_append, this]

/-- A row of polynomials that may be read. -/
structure PRead (W : World) (v : Value) (us : List Value) (ps : List LP) : Prop where
  sl : Sl W v 2 (pcs us ps)
  len : us.length = ps.length
  each : ∀ j, j < ps.length → Ints W (nthv us j) (nthp ps j).c
/-- A row of polynomials in a block of the call's own; their coefficients lie in blocks of the call's own, too. -/
structure PRow (W : World) (B : Nat) (v : Value) (us : List Value) (ps : List LP) : Prop where
  own : Own W B 27 2 v (pcs us ps)
  len : us.length = ps.length
  each : ∀ j, j < ps.length → OwnI W B (nthv us j) (nthp ps j).c
section
variable {W W' : World} {B : Nat} {v : Value} {us : List Value} {ps : List LP}
theorem PRow.read (h : PRow W B v us ps) : PRead W v us ps := ⟨h.own.sl, h.len, fun j hj => (h.each j hj).ints⟩
theorem PRead.isSl (h : PRead W v us ps) : IsSl v := h.sl.isSl
theorem PRead.vlen (h : PRead W v us ps) : Go.Sl.vlen v = ps.length := by
  have h1 := h.sl.2.1
  rw [pcs_length us ps h.len] at h1
  omega
theorem PRead.low (h : PRead W v us ps) {j : Nat} (hj : j < ps.length) : W.cell? (vat v (j * 2)) = some (.int .i64 (nthp ps j).low) :=
  h.sl.2.2 _ _ (pcs_low us ps h.len j hj)
theorem PRead.c (h : PRead W v us ps) {j : Nat} (hj : j < ps.length) : W.cell? (vat v (j * 2 + 1)) = some (nthv us j) :=
  h.sl.2.2 _ _ (pcs_c us ps h.len j hj)
theorem PRead.below (h : PRead W v us ps) (hb : Below W.heap.size W W') : PRead W' v us ps := ⟨h.sl.below hb, h.len, fun j hj => (h.each j hj).below hb⟩
theorem PRow.isSl (h : PRow W B v us ps) : IsSl v := h.read.isSl
theorem PRow.vlen (h : PRow W B v us ps) : Go.Sl.vlen v = ps.length := h.read.vlen
theorem PRow.below (h : PRow W B v us ps) (hb : Below W.heap.size W W') : PRow W' B v us ps := ⟨h.own.below hb, h.len, fun j hj => (h.each j hj).below hb⟩
theorem PRow.low' (h : PRow W B v us ps) {B' : Nat} (hB : B' ≤ B) : PRow W B' v us ps := ⟨h.own.low hB, h.len, fun j hj => (h.each j hj).low hB⟩
theorem PRow.frozen0 (h : PRow W B v us ps) {j : Nat} (hj : j < ps.length) : W.frozen? (vat v (j * 2)) = false := h.own.frozen (by rw [pcs_length us ps h.len]; omega)
theorem PRow.frozen1 (h : PRow W B v us ps) {j : Nat} (hj : j < ps.length) : W.frozen? (vat v (j * 2 + 1)) = false := h.own.frozen (by rw [pcs_length us ps h.len]; omega)
theorem PRow.rowAt (h : PRow W B v us ps) (h0 : 0 < ps.length) : Go.Sl.row v = some (vblk v) := row_some (by have := h.isSl.le; have := h.vlen; omega)
theorem PRow.blk (h : PRow W B v us ps) (h0 : 0 < ps.length) : B ≤ vblk v ∧ vblk v < W.heap.size := h.own.lt _ (h.rowAt h0)
/-- The block's object: cells of polynomials. -/
theorem PRow.obj (h : PRow W B v us ps) (h0 : 0 < ps.length) : ∃ cur, W.heap[vblk v]? = some (.cells cur 27 (0, 0)) := by
  obtain ⟨cur, hc, _⟩ := h.own.getCell (j := 0) (by rw [pcs_length us ps h.len]; omega)
  exact ⟨cur, hc⟩
theorem poly_ne_int : (27 : TypeId) ≠ 3 := by decide
theorem rows_ne_poly : (28 : TypeId) ≠ 27 := by decide
theorem rows_ne_int : (28 : TypeId) ≠ 3 := by decide
/-- Whoever's own block of another type it is, it is another block. -/
theorem Own.ne_of_type {e e' : TypeId} (hne : e ≠ e') {s : Nat} {u : Value} {cs : List Value} (h : Own W B e s u cs) {b : Nat} {cur : Array Value} (hb : W.heap[b]? = some (.cells cur e' (0, 0))) : ∀ k, Go.Sl.row u = some k → b ≠ k := by
  intro k hk e1
  obtain ⟨h0, rfl⟩ := row_eq hk
  obtain ⟨_, _, cur', hh, _⟩ := h.2.2 h0
  subst e1
  rw [hh] at hb
  injection hb with hb
  injection hb with h1 h2
  exact hne h2
/-- A store of a polynomial. -/
theorem PRow.set (h : PRow W B v us ps) {j : Nat} (hj : j < ps.length) {u : Value} {q : LP} (hu : OwnI W B u q.c) :
    PRow ((W.setCell (vat v (j * 2)) (.int .i64 q.low)).setCell (vat v (j * 2 + 1)) u) B v (us.set j u) (ps.set j q) := by
  have hl := pcs_length us ps h.len
  obtain ⟨cur, hcur⟩ := h.obj (by omega)
  have keep : ∀ {x : Value} {xs : List Int}, OwnI W B x xs → OwnI ((W.setCell (vat v (j * 2)) (.int .i64 q.low)).setCell (vat v (j * 2 + 1)) u) B x xs := by
    intro x xs hx
    have hne := Own.ne_of_type (Ne.symm poly_ne_int) hx hcur
    exact (hx.setOther (by simpa [vat_block] using hne) _).setOther (by simpa [vat_block] using hne) _
  refine ⟨?_, by simp [h.len], fun i hi => ?_⟩
  · rw [← pcs_set us ps h.len j hj q u]
    exact (h.own.set (by omega) _).set (by rw [List.length_set]; omega) _
  · rw [List.length_set] at hi
    rw [nthp_set hi, nthv_set (by rw [h.len]; exact hi)]
    by_cases e : i = j
    · rw [if_pos e, if_pos e]; exact keep hu
    · rw [if_neg e, if_neg e]; exact keep (h.each i hi)
/-- A store of coefficients. -/
theorem PRow.setC (h : PRow W B v us ps) {j : Nat} (hj : j < ps.length) {u : Value} (hu : OwnI W B u (nthp ps j).c) :
    PRow (W.setCell (vat v (j * 2 + 1)) u) B v (us.set j u) ps := by
  have hl := pcs_length us ps h.len
  obtain ⟨cur, hcur⟩ := h.obj (by omega)
  have keep : ∀ {x : Value} {xs : List Int}, OwnI W B x xs → OwnI (W.setCell (vat v (j * 2 + 1)) u) B x xs := by
    intro x xs hx
    have hne := Own.ne_of_type (Ne.symm poly_ne_int) hx hcur
    exact hx.setOther (by simpa [vat_block] using hne) _
  refine ⟨?_, by simp [h.len], fun i hi => ?_⟩
  · rw [← pcs_setC us ps h.len j hj u]
    exact h.own.set (by omega) _
  · rw [nthv_set (by rw [h.len]; exact hi)]
    by_cases e : i = j
    · subst e; rw [if_pos rfl]; exact keep hu
    · rw [if_neg e]; exact keep (h.each i hi)
theorem PRow.setOther (h : PRow W B v us ps) {p : Addr} (hp : ∀ k, Go.Sl.row v = some k → p.block ≠ k) {cur : Array Value} {e : TypeId} (he : e ≠ 3) (hb : W.heap[p.block]? = some (.cells cur e (0, 0))) (x : Value) : PRow (W.setCell p x) B v us ps :=
  ⟨h.own.setOther hp x, h.len, fun j hj => (h.each j hj).setOther (Own.ne_of_type (Ne.symm he) (h.each j hj) hb) x⟩
end

/-- A matrix of polynomials: the first rows (as many as m has) are made, each in a block of its own. -/
structure PMat (W : World) (B : Nat) (v : Value) (vs : List Value) (m : List (List LP)) : Prop where
  own : Own W B 28 1 v vs
  len : m.length ≤ vs.length
  row : ∀ i, i < m.length → ∃ us, PRow W B (nthv vs i) us (nthm m i)
  pos : ∀ i, i < m.length → 0 < (nthm m i).length
  each : ∀ i j, i < m.length → j < m.length → i ≠ j → vblk (nthv vs i) ≠ vblk (nthv vs j)
section
variable {W W' : World} {B : Nat} {v : Value} {vs : List Value} {m : List (List LP)}
theorem PMat.isSl (h : PMat W B v vs m) : IsSl v := h.own.isSl
theorem PMat.vlen (h : PMat W B v vs m) : Go.Sl.vlen v = vs.length := by have := h.own.2.1; omega
theorem PMat.cell (h : PMat W B v vs m) {i : Nat} (hi : i < vs.length) : W.cell? (vat v i) = some (nthv vs i) := by rw [nthv_lt hi]; exact h.own.cell hi
theorem PMat.below (h : PMat W B v vs m) (hb : Below W.heap.size W W') : PMat W' B v vs m :=
  ⟨h.own.below hb, h.len, fun i hi => let ⟨us, k⟩ := h.row i hi; ⟨us, k.below hb⟩, h.pos, h.each⟩
theorem PMat.low' (h : PMat W B v vs m) {B' : Nat} (hB : B' ≤ B) : PMat W B' v vs m :=
  ⟨h.own.low hB, h.len, fun i hi => let ⟨us, k⟩ := h.row i hi; ⟨us, k.low' hB⟩, h.pos, h.each⟩
theorem PMat.frozen (h : PMat W B v vs m) {i : Nat} (hi : i < vs.length) : W.frozen? (vat v i) = false := h.own.frozen hi
/-- A store of a polynomial into a row. -/
theorem PMat.set (h : PMat W B v vs m) {i j : Nat} (hi : i < m.length) (hj : j < (nthm m i).length) {u : Value} {q : LP} (hu : OwnI W B u q.c) :
    PMat ((W.setCell (vat (nthv vs i) (j * 2)) (.int .i64 q.low)).setCell (vat (nthv vs i) (j * 2 + 1)) u) B v vs (m.set i ((nthm m i).set j q)) := by
  obtain ⟨us, hr⟩ := h.row i hi
  obtain ⟨cur, hcur⟩ := hr.obj (by omega)
  have hr2 := hr.set hj hu
  refine ⟨(h.own.setOther (by simpa [vat_block] using Own.ne_of_type rows_ne_poly h.own hcur) _).setOther (by simpa [vat_block] using Own.ne_of_type rows_ne_poly h.own hcur) _, by rw [List.length_set]; exact h.len, fun k hk => ?_, fun k hk => ?_, fun k l hk hl => ?_⟩
  · rw [List.length_set] at hk
    rw [nthm_set hk]
    by_cases e : k = i
    · subst e; rw [if_pos rfl]; exact ⟨_, hr2⟩
    · rw [if_neg e]
      obtain ⟨us', hk'⟩ := h.row k hk
      have hne : ∀ b, Go.Sl.row (nthv vs k) = some b → vblk (nthv vs i) ≠ b := by
        intro b hb
        rw [hk'.rowAt (h.pos k hk)] at hb
        rw [← Option.some.inj hb]
        exact h.each i k hi hk (Ne.symm e)
      have h1 := hk'.setOther (p := vat (nthv vs i) (j * 2)) hne poly_ne_int hcur (.int .i64 q.low)
      have hcur2 : (W.setCell (vat (nthv vs i) (j * 2)) (.int .i64 q.low)).heap[vblk (nthv vs i)]? = some (.cells (cur.setIfInBounds (voff (nthv vs i) + j * 2) (.int .i64 q.low)) 27 (0, 0)) := by
        simp [World.setCell, vat, Array.getElem?_modify, hcur]
      exact ⟨us', h1.setOther (p := vat (nthv vs i) (j * 2 + 1)) hne poly_ne_int hcur2 u⟩
  · rw [List.length_set] at hk
    rw [nthm_set hk]
    split
    · rw [List.length_set]; exact h.pos i hi
    · exact h.pos k hk
  · rw [List.length_set] at hk hl; exact h.each k l hk hl
/-- A store of coefficients into a row. -/
theorem PMat.setC (h : PMat W B v vs m) {i j : Nat} (hi : i < m.length) (hj : j < (nthm m i).length) {u : Value} (hu : OwnI W B u (nthp (nthm m i) j).c) :
    PMat (W.setCell (vat (nthv vs i) (j * 2 + 1)) u) B v vs m := by
  obtain ⟨us, hr⟩ := h.row i hi
  obtain ⟨cur, hcur⟩ := hr.obj (by omega)
  have hr2 := hr.setC hj hu
  refine ⟨h.own.setOther (by simpa [vat_block] using Own.ne_of_type rows_ne_poly h.own hcur) _, h.len, fun k hk => ?_, h.pos, h.each⟩
  by_cases e : k = i
  · subst e; exact ⟨_, hr2⟩
  · obtain ⟨us', hk'⟩ := h.row k hk
    have hne : ∀ b, Go.Sl.row (nthv vs k) = some b → vblk (nthv vs i) ≠ b := by
      intro b hb
      rw [hk'.rowAt (h.pos k hk)] at hb
      rw [← Option.some.inj hb]
      exact h.each i k hi hk (Ne.symm e)
    exact ⟨us', hk'.setOther (p := vat (nthv vs i) (j * 2 + 1)) hne poly_ne_int hcur u⟩
/-- The next row is made. -/
theorem PMat.setRow (h : PMat W B v vs m) {r : Value} {us : List Value} {ps : List LP} (hl : m.length < vs.length) (hr : PRow W B r us ps) (h0 : 0 < ps.length) (hnew : ∀ i, i < m.length → vblk (nthv vs i) ≠ vblk r) :
    PMat (W.setCell (vat v m.length) r) B v (vs.set m.length r) (m ++ [ps]) := by
  obtain ⟨cur, hcur, _⟩ := h.own.getCell hl
  have hrv : Go.Sl.row v = some (vblk v) := row_some (h.own.cap_of hl)
  have keep : ∀ {x us' ps'}, PRow W B x us' ps' → PRow (W.setCell (vat v m.length) r) B x us' ps' := by
    intro x us' ps' hx
    exact hx.setOther (p := vat v m.length) (Own.ne_of_type (Ne.symm rows_ne_poly) hx.own hcur) rows_ne_int hcur r
  have hn : ∀ i, i < m.length → nthm (m ++ [ps]) i = nthm m i ∧ nthv (vs.set m.length r) i = nthv vs i := by
    intro i hi
    refine ⟨by simp [nthm, List.getElem?_append, hi], ?_⟩
    rw [nthv_set (by omega), if_neg (by omega)]
  have hlast : nthm (m ++ [ps]) m.length = ps ∧ nthv (vs.set m.length r) m.length = r := by
    refine ⟨by simp [nthm], ?_⟩
    rw [nthv_set hl, if_pos rfl]
  refine ⟨h.own.set hl r, by simp; omega, fun i hi => ?_, fun i hi => ?_, fun i j hi hj hij => ?_⟩
  · simp only [List.length_append, List.length_cons, List.length_nil] at hi
    rcases Nat.lt_or_ge i m.length with hlt | hge
    · rw [(hn i hlt).1, (hn i hlt).2]
      obtain ⟨us', hk'⟩ := h.row i hlt
      exact ⟨us', keep hk'⟩
    · obtain rfl : i = m.length := by omega
      rw [hlast.1, hlast.2]; exact ⟨us, keep hr⟩
  · simp only [List.length_append, List.length_cons, List.length_nil] at hi
    rcases Nat.lt_or_ge i m.length with hlt | hge
    · rw [(hn i hlt).1]; exact h.pos i hlt
    · obtain rfl : i = m.length := by omega
      rw [hlast.1]; exact h0
  · simp only [List.length_append, List.length_cons, List.length_nil] at hi hj
    rcases Nat.lt_or_ge i m.length with hi1 | hi1 <;> rcases Nat.lt_or_ge j m.length with hj1 | hj1
    · rw [(hn i hi1).2, (hn j hj1).2]; exact h.each i j hi1 hj1 hij
    · obtain rfl : j = m.length := by omega
      rw [(hn i hi1).2, hlast.2]; exact hnew i hi1
    · obtain rfl : i = m.length := by omega
      rw [(hn j hj1).2, hlast.2]; exact Ne.symm (hnew j hj1)
    · omega
end

end Go.Proofs.Ytdmogoeafjpphaa

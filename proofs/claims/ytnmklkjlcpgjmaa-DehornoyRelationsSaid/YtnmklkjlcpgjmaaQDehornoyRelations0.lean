/- Slices as closed values: their length, capacity, cells; what reading, cutting, storing, making and appending does to them. Holds of every program. -/
import Derived.Test.YtnmklkjlcpgjmaaRows
import Derived.WalkKit
import Derived.WalkSpells
import Derived.WalkLawsBesides
import Derived.Lib.Hide
namespace Go.Sl
open Go.RowKit

def vlen : Value → Nat
  | .slice _ n _ => n
  | _ => 0
def vcap : Value → Nat
  | .slice _ _ c => c
  | _ => 0
def vbase : Value → Option Addr
  | .slice a _ _ => a
  | _ => none
def vblk (v : Value) : Nat := ((vbase v).getD ⟨0, 0, none⟩).block
def voff (v : Value) : Nat := ((vbase v).getD ⟨0, 0, none⟩).off
/-- The address of the cell with number j, counted from the first element's. -/
def vat (v : Value) (j : Nat) : Addr := ⟨vblk v, voff v + j, none⟩

/-- A slice value whose address is a plain one if there is any room. -/
def IsSl (v : Value) : Prop := v = .slice (vbase v) (vlen v) (vcap v) ∧ vlen v ≤ vcap v ∧ vcap v ≤ maxLen ∧ (0 < vcap v → vbase v = some (vat v 0))

theorem vat_block (v : Value) (j : Nat) : (vat v j).block = vblk v := rfl

theorem IsSl.le {v : Value} (h : IsSl v) : vlen v ≤ vcap v := h.2.1
theorem IsSl.max {v : Value} (h : IsSl v) : vlen v ≤ maxLen := Nat.le_trans h.2.1 h.2.2.1
theorem IsSl.i63 {v : Value} (h : IsSl v) : (vlen v : Int) ≤ 9223372036854775807 := by
  have := h.max; unfold maxLen at this; omega
theorem IsSl.base {v : Value} (h : IsSl v) (h0 : 0 < vcap v) : vbase v = some (vat v 0) := h.2.2.2 h0

theorem IsSl.cases {v : Value} (h : IsSl v) : ∃ a n c, v = .slice a n c ∧ n ≤ c ∧ c ≤ maxLen ∧ (0 < c → ∃ b o, a = some ⟨b, o, none⟩) :=
  ⟨vbase v, vlen v, vcap v, h.1, h.2.1, h.2.2.1, fun hc => ⟨_, _, h.2.2.2 hc⟩⟩

theorem isSl_nil : IsSl (.slice none 0 0) := ⟨rfl, Nat.le_refl _, Nat.zero_le _, fun h => absurd h (by simp [vcap])⟩
@[simp] theorem vlen_mk (a : Option Addr) (n c : Nat) : vlen (.slice a n c) = n := rfl
@[simp] theorem vcap_mk (a : Option Addr) (n c : Nat) : vcap (.slice a n c) = c := rfl
@[simp] theorem vbase_mk (a : Option Addr) (n c : Nat) : vbase (.slice a n c) = a := rfl
theorem isSl_mk (b o n c : Nat) (h : n ≤ c) (hc : c ≤ maxLen) : IsSl (.slice (some ⟨b, o, none⟩) n c) := ⟨rfl, h, hc, fun _ => rfl⟩
theorem vat_mk (b o n c j : Nat) : vat (.slice (some ⟨b, o, none⟩) n c) j = ⟨b, o + j, none⟩ := rfl
theorem vblk_mk (b o n c : Nat) : vblk (.slice (some ⟨b, o, none⟩) n c) = b := rfl

@[go_sem ↓ high] theorem cells_sl {v : Value} (hv : IsSl v) : v.cells = #[v] := by
  obtain ⟨a, n, c, rfl, -⟩ := hv.cases
  rfl
@[go_sem] theorem oneCell'_sl {v : Value} (hv : IsSl v) : v.oneCell' = true := by
  obtain ⟨a, n, c, rfl, -⟩ := hv.cases
  rfl

/-- What an index out of range comes to: never looked into. -/
def outOfRange (P : Program) (w : World) (t : TypeId) (v : Value) (k : IntKind) (i : Int) : Result Value := (Instr.indexAt t v (.int k i)).run P w
/-- A cut of a slice: elements l to h, room up to m; elements of s cells. -/
def vcut (v : Value) (l h m s : Nat) : Value := .slice (if m = l then vbase v else (vbase v).map (·.add (l * s))) (h - l) (m - l)

section
variable {P : Program} (w : World)

@[go_sem] theorem run_len_sl (t ty : TypeId) {v : Value} (hv : IsSl v) (ht : P.underlying t = some (.slice (P.elem t))) :
    (Builtin.len_ #[t] ty #[v]).run P w = .ok (.int .i64 (vlen v)) w := by
  obtain ⟨a, n, c, rfl, -⟩ := hv.cases
  simp [Builtin.len_, run_underlying ht, goInt]

@[go_sem] theorem run_cap_sl (t ty : TypeId) {v : Value} (hv : IsSl v) (ht : P.underlying t = some (.slice (P.elem t))) :
    (Builtin.cap_ #[t] ty #[v]).run P w = .ok (.int .i64 (vcap v)) w := by
  obtain ⟨a, n, c, rfl, -⟩ := hv.cases
  simp [Builtin.cap_, run_underlying ht, goInt]

@[go_sem] theorem run_indexAt_sl (t : TypeId) {v : Value} (k : IntKind) (i : Int) (hv : IsSl v) (ht : P.underlying t = some (.slice (P.elem t))) :
    (Instr.indexAt t v (.int k i)).run P w = if 0 ≤ i ∧ i < (vlen v : Int) then ((sizeOf (P.elem t)).run P w).andThen fun s w' => .ok (.pointer (some (vat v (i.toNat * s)))) w' else outOfRange P w t v k i := by
  split
  · rename_i h
    have hc := hv.le
    obtain ⟨a, n, c, rfl, -, -, ha⟩ := hv.cases
    simp only [vlen_mk, vcap_mk] at h hc
    obtain ⟨b, o, rfl⟩ := ha (by omega)
    simp only [Instr.indexAt, asIntOf, run_underlying ht, h.1, h.2, Sem.run_bind, Sem.run_pure, Result.andThen_ok, and_self, if_true]
    cases (sizeOf (P.elem t)).run P w with
    | ok s w' => simp [vat_mk, Addr.add_lit]
    | halt x w' => simp
  · rfl

/-- A cut of a closed slice: its bounds are asked as ever. -/
@[go_sem low] theorem run_slice_sl (t : TypeId) {v : Value} (hv : IsSl v) (ht : P.underlying t = some (.slice (P.elem t))) (lo hi mx : Option Value) :
    (Instr.slice t v lo hi mx).run P w =
      ((Instr.sliceBounds true (vlen v) (vcap v) lo hi mx).run P w).andThen fun b w => ((sizeOf (P.elem t)).run P w).andThen fun s w => .ok (vcut v b.1 b.2.1 b.2.2 s) w := by
  obtain ⟨a, n, c, rfl, -⟩ := hv.cases
  rw [run_slice_any w t a n c ht]
  rfl
end

theorem isSl_cut {v : Value} (hv : IsSl v) {l h m s : Nat} (_h1 : l ≤ h) (h2 : h ≤ m) (h3 : m ≤ vcap v) : IsSl (vcut v l h m s) := by
  obtain ⟨a, n, c, rfl, hn, hc, ha⟩ := hv.cases
  simp only [vcap_mk] at h3
  refine ⟨rfl, ?_, ?_, ?_⟩
  · simp [vcut]; omega
  · simp [vcut]; omega
  · intro h0
    simp only [vcut, vcap_mk] at h0
    obtain ⟨b, o, rfl⟩ := ha (by omega)
    simp [vcut, vat, vblk, voff, show ¬ m = l from by omega, Addr.add_lit]
theorem vlen_cut (v : Value) (l h m s : Nat) : vlen (vcut v l h m s) = h - l := rfl
theorem vcap_cut (v : Value) (l h m s : Nat) : vcap (vcut v l h m s) = m - l := rfl
theorem vat_cut {v : Value} (hv : IsSl v) {l h m s : Nat} (j : Nat) (h2 : l < m) (h3 : m ≤ vcap v) : vat (vcut v l h m s) j = vat v (l * s + j) := by
  obtain ⟨a, n, c, rfl, hn, hc, ha⟩ := hv.cases
  simp only [vcap_mk] at h3
  obtain ⟨b, o, rfl⟩ := ha (by omega)
  simp [vcut, vat, vblk, voff, show ¬ m = l from by omega, Addr.add_lit, Nat.add_assoc]

/-- The slice holds these cells, s a piece: what may be read. -/
def Sl (w : World) (v : Value) (s : Nat) (cs : List Value) : Prop := IsSl v ∧ cs.length = vlen v * s ∧ ∀ j u, cs[j]? = some u → w.cell? (vat v j) = some u

theorem Sl.isSl {w : World} {v : Value} {s : Nat} {cs : List Value} (h : Sl w v s cs) : IsSl v := h.1
theorem Sl.cell {w : World} {v : Value} {s : Nat} {cs : List Value} (h : Sl w v s cs) {j : Nat} (hj : j < cs.length) : w.cell? (vat v j) = some cs[j] := h.2.2 j _ (List.getElem?_eq_getElem hj)
theorem sl_nil (w : World) (s : Nat) : Sl w (.slice none 0 0) s [] := ⟨isSl_nil, by simp, by simp⟩

/-- Whatever keeps the slice's block keeps the slice. -/
theorem Sl.of_block {w w' : World} {v : Value} {s : Nat} {cs : List Value} (h : Sl w v s cs) (hb : vblk v < w.heap.size → w'.heap[vblk v]? = w.heap[vblk v]?) : Sl w' v s cs := by
  refine ⟨h.1, h.2.1, fun j u hu => ?_⟩
  have h1 := h.2.2 j u hu
  have hlt := World.block_lt_of_cell? w _ h1
  rw [World.cell?_of_block (w := w) (a := vat v j) (hb hlt)]
  exact h1
theorem Sl.below {w w' : World} {v : Value} {s : Nat} {cs : List Value} (h : Sl w v s cs) (hb : Below w.heap.size w w') : Sl w' v s cs := h.of_block fun hl => hb.block _ hl
theorem Sl.alloc {w : World} {v : Value} {s : Nat} {cs : List Value} (h : Sl w v s cs) (o : Obj) : Sl (w.alloc o) v s cs := h.of_block fun hl => Below.heap_alloc w o _ hl
theorem Sl.cut {w : World} {v : Value} {s : Nat} {cs : List Value} (h : Sl w v s cs) {l r m : Nat} (h1 : l ≤ r) (h2 : r ≤ vlen v) (h3 : r ≤ m) (h4 : m ≤ vcap v) : Sl w (vcut v l r m s) s ((cs.drop (l * s)).take ((r - l) * s)) := by
  refine ⟨isSl_cut h.1 h1 h3 h4, ?_, fun j u hu => ?_⟩
  · have h5 := h.2.1
    have h6 : (vlen v - l) * s = vlen v * s - l * s := Nat.sub_mul _ _ _
    have h7 : (r - l) * s ≤ (vlen v - l) * s := Nat.mul_le_mul_right _ (by omega)
    simp only [List.length_take, List.length_drop, vlen_cut]; omega
  · rw [List.getElem?_take] at hu
    split at hu
    · rename_i hj
      rw [List.getElem?_drop] at hu
      have hlm : l < m := by
        rcases Nat.lt_or_ge l m with h | h
        · exact h
        · have : r - l = 0 := by omega
          rw [this] at hj; omega
      rw [vat_cut h.1 j hlm h4]
      exact h.2.2 _ u hu
    · cases hu

/-- The block that an owned slice may be written in. -/
def row (v : Value) : Option Nat := if vcap v = 0 then none else some (vblk v)

/-- The slice is the call's own: its cells lie at the head of a block from B on that is not frozen. -/
def Own (w : World) (B : Nat) (e : TypeId) (s : Nat) (v : Value) (cs : List Value) : Prop :=
  IsSl v ∧ cs.length = vlen v * s ∧ (0 < vcap v → B ≤ vblk v ∧ voff v = 0 ∧ ∃ cur, w.heap[vblk v]? = some (.cells cur e (0, 0)) ∧ vcap v * s ≤ cur.size ∧ cur.toList.take cs.length = cs)

section
variable {w w' : World} {B : Nat} {e : TypeId} {s : Nat} {v : Value} {cs : List Value}

theorem Own.isSl (h : Own w B e s v cs) : IsSl v := h.1
theorem own_nil (w : World) (B : Nat) (e : TypeId) (s : Nat) : Own w B e s (.slice none 0 0) [] := ⟨isSl_nil, by simp, by simp⟩
@[simp] theorem row_nil : row (.slice none 0 0) = none := rfl
theorem row_some (h : 0 < vcap v) : row v = some (vblk v) := by unfold row; rw [if_neg (by omega)]
theorem row_eq {k : Nat} (h : row v = some k) : 0 < vcap v ∧ vblk v = k := by
  unfold row at h; split at h
  · cases h
  · exact ⟨by omega, by simpa using h⟩

theorem Own.cap_of (h : Own w B e s v cs) {j : Nat} (hj : j < cs.length) : 0 < vcap v := by
  have h1 := h.2.1
  have h2 := h.1.le
  rcases Nat.eq_zero_or_pos (vlen v) with h0 | h0
  · have h3 : cs.length = 0 := by rw [h1, h0]; simp
    omega
  · omega
theorem Own.getCell (h : Own w B e s v cs) {j : Nat} (hj : j < cs.length) : ∃ cur, w.heap[vblk v]? = some (.cells cur e (0, 0)) ∧ B ≤ vblk v ∧ voff v = 0 ∧ j < cur.size ∧ cur[j]? = some cs[j] ∧ cs.length ≤ cur.size := by
  have h0 := h.cap_of hj
  obtain ⟨hB, ho, cur, hh, hc, ht⟩ := h.2.2 h0
  have h1 := h.2.1
  have h2 := Nat.mul_le_mul_right s h.1.le
  refine ⟨cur, hh, hB, ho, by omega, ?_, by omega⟩
  have : (cur.toList.take cs.length)[j]? = some cs[j] := by rw [ht]; exact List.getElem?_eq_getElem hj
  rw [List.getElem?_take, if_pos hj] at this
  simpa using this
theorem Own.sl (h : Own w B e s v cs) : Sl w v s cs := by
  refine ⟨h.1, h.2.1, fun j u hu => ?_⟩
  have hj : j < cs.length := (List.getElem?_eq_some_iff.1 hu).1
  obtain ⟨cur, hh, _, ho, hjs, hjc, _⟩ := h.getCell hj
  rw [List.getElem?_eq_getElem hj] at hu
  simp [World.cell?, vat, hh, ho, hjc]
  exact Option.some.inj hu
theorem Own.cell (h : Own w B e s v cs) {j : Nat} (hj : j < cs.length) : w.cell? (vat v j) = some cs[j] := h.sl.cell hj
theorem Own.frozen (h : Own w B e s v cs) {j : Nat} (hj : j < cs.length) : w.frozen? (vat v j) = false := by
  obtain ⟨cur, hh, _⟩ := h.getCell hj
  simp [World.frozen?, vat, hh]
theorem Own.ge (h : Own w B e s v cs) {j : Nat} (hj : j < cs.length) : B ≤ (vat v j).block := by
  obtain ⟨cur, hh, hB, _⟩ := h.getCell hj
  exact hB
theorem Own.lt (h : Own w B e s v cs) : ∀ k, row v = some k → B ≤ k ∧ k < w.heap.size := by
  intro k hk
  obtain ⟨h0, rfl⟩ := row_eq hk
  obtain ⟨hB, ho, cur, hh, _⟩ := h.2.2 h0
  exact ⟨hB, (Array.getElem?_eq_some_iff.1 hh).1⟩
theorem Own.low (h : Own w B e s v cs) {B' : Nat} (hB : B' ≤ B) : Own w B' e s v cs :=
  ⟨h.1, h.2.1, fun h0 => let ⟨a, b⟩ := h.2.2 h0; ⟨Nat.le_trans hB a, b⟩⟩
theorem Own.of_block (h : Own w B e s v cs) (hb : ∀ k, row v = some k → w'.heap[k]? = w.heap[k]?) : Own w' B e s v cs :=
  ⟨h.1, h.2.1, fun h0 => by
    obtain ⟨a, b, cur, c, d⟩ := h.2.2 h0
    exact ⟨a, b, cur, by rw [hb _ (row_some h0)]; exact c, d⟩⟩
theorem Own.alloc (h : Own w B e s v cs) (o : Obj) : Own (w.alloc o) B e s v cs := h.of_block fun k hk => Below.heap_alloc w o _ (h.lt k hk).2
theorem Own.below (h : Own w B e s v cs) (hb : Below w.heap.size w w') : Own w' B e s v cs := h.of_block fun k hk => hb.block _ (h.lt k hk).2
theorem Own.grown (h : Own w B e s v cs) {r : Option Nat} (hg : w.grownBy w' r) (hr : ∀ k, row v = some k → r ≠ some k) : Own w' B e s v cs :=
  h.of_block fun k hk => hg.block _ (h.lt k hk).2 (fun e => hr k hk e.symm)
theorem Sl.grown (h : Sl w v s cs) {r : Option Nat} (hg : w.grownBy w' r) (hr : ∀ k, r = some k → vblk v ≠ k) : Sl w' v s cs :=
  h.of_block fun hl => hg.block _ hl (fun e => hr _ e.symm rfl)

/-- A store into an owned slice. -/
theorem Own.set (h : Own w B e s v cs) {j : Nat} (_hj : j < cs.length) (u : Value) : Own (w.setCell (vat v j) u) B e s v (cs.set j u) := by
  refine ⟨h.1, by rw [List.length_set]; exact h.2.1, fun h0 => ?_⟩
  obtain ⟨hB, ho, cur, hh, hc, ht⟩ := h.2.2 h0
  refine ⟨hB, ho, cur.setIfInBounds j u, ?_, by simpa using hc, ?_⟩
  · simp [World.setCell, vat, Array.getElem?_modify, hh, ho]
  · simp only [List.length_set, Array.toList_setIfInBounds]
    rw [List.take_set, ht]
theorem Own.setOther (h : Own w B e s v cs) {p : Addr} (hp : ∀ k, row v = some k → p.block ≠ k) (u : Value) : Own (w.setCell p u) B e s v cs :=
  h.of_block fun k hk => Below.heap_setCell w p u k (fun e => hp k hk e.symm)
theorem Sl.setOther (h : Sl w v s cs) {p : Addr} (hp : p.block ≠ vblk v) (u : Value) : Sl (w.setCell p u) v s cs :=
  h.of_block fun _ => Below.heap_setCell w p u _ (fun e => hp e.symm)

theorem sl_one (w : World) (u : Value) (e : TypeId) : Sl (w.alloc (.cells #[u] e)) (.slice (some ⟨w.heap.size, 0, none⟩) 1 1) 1 [u] := by
  refine ⟨isSl_mk _ _ _ _ (Nat.le_refl _) (by unfold maxLen; omega), by simp, fun j x hx => ?_⟩
  match j, hx with
  | 0, hx =>
    simp at hx; subst hx
    exact cell_of_row (w.alloc (.cells #[u] e)) w.heap.size 0 #[u] e (0, 0) (heap_alloc_new w (.cells #[u] e))

end

section
variable {P : Program}

theorem append_none_run (w : World) (t ty e : TypeId) (i : TypeInfo) (ht : P.underlying t = some (.slice e)) (hi : P.info? e = some i) {v x : Value} (hv : IsSl v) (hx : IsSl x) (h0 : vlen x = 0) :
    (Builtin.append_ #[t, t] ty #[v, x]).run P w = .ok v w := by
  obtain ⟨a, n, c, rfl, hn, hc, ha⟩ := hv.cases
  obtain ⟨ax, nx, cx, rfl, hnx, hcx, hax⟩ := hx.cases
  simp only [vlen_mk] at h0; subst h0
  cases ax <;> cases a <;> simp [Builtin.append_, run_underlying ht, sizeOf, typeInfo, hi, Builtin.lenOf, Builtin.firstCells, loadCells, loadCellsFrom, storeCells, hn]

/-- append onto an owned slice, of whatever slice. -/
theorem run_append_sl (w : World) (B : Nat) (t ty e : TypeId) (i : TypeInfo) (z : Value) (size bytes : Nat) (ht : P.underlying t = some (.slice e)) (hi : P.info? e = some i) (hz : i.zero = some z)
    (hsize : i.size = size) (hby : i.bytes = bytes) (hzs : z.cells.size = size) (hsz : 0 < size)
    {v x : Value} {cs news : List Value} (hown : Own w B e size v cs) (hx : Sl w x size news) (h1 : ∀ u ∈ news, u.oneCell' = true)
    (h63 : vlen v + vlen x ≤ maxLen) (hbytes : (vlen v + vlen x) * bytes ≤ 140737488355328) (hB : B ≤ w.heap.size) :
    ∃ v' w', (Builtin.append_ #[t, t] ty #[v, x]).run P w = .ok v' w' ∧ Own w' B e size v' (cs ++ news) ∧ w.grownBy w' (row v) ∧ (∀ k, row v' = some k → row v = some k ∨ w.heap.size ≤ k) := by
  subst hsize
  subst hby
  have hl := hown.2.1
  have hlx := hx.2.1
  rcases Nat.eq_zero_or_pos (vlen x) with h0 | h0
  · have hn : news = [] := List.eq_nil_of_length_eq_zero (by rw [hlx, h0]; simp)
    subst hn
    exact ⟨v, w, append_none_run w t ty e i ht hi hown.1 hx.1 h0, by simpa using hown, World.grownBy.refl _ _, fun k hk => .inl hk⟩
  obtain ⟨a, n, c, rfl, hn, hc, ha⟩ := hown.1.cases
  obtain ⟨ax, m, cx, rfl, hnx, hcx, hax⟩ := hx.1.cases
  simp only [vlen_mk] at *
  obtain ⟨bx, ox, rfl⟩ := hax (by omega)
  have hnews : ∀ j u, news[j]? = some u → w.cell? ((⟨bx, ox, none⟩ : Addr).add j) = some u := by
    intro j u hu; have := hx.2.2 j u hu; rw [vat_mk] at this; rw [Addr.add_lit]; exact this
  have hsmall : n + m ≤ 9223372036854775807 := by simp only [maxLen] at h63; omega
  have hlen : (cs ++ news).length = (n + m) * i.size := by rw [List.length_append, hl, hlx, Nat.add_mul]
  have grown : ∀ (old : Nat), old < n + m → ∀ (r : Option Nat),
      Own (w.drew.alloc (.cells (cs.toArray ++ news.toArray ++ Builtin.zeroCells z.cells (grownCap w (n + m) old e - (n + m))) e)) B e i.size
        (.slice (some ⟨w.heap.size, 0, none⟩) (n + m) (grownCap w (n + m) old e)) (cs ++ news) ∧
      w.grownBy (w.drew.alloc (.cells (cs.toArray ++ news.toArray ++ Builtin.zeroCells z.cells (grownCap w (n + m) old e - (n + m))) e)) r := by
    intro old ho r
    have hge := grownCap_ge w (n + m) old e
    have hcm : grownCap w (n + m) old e ≤ maxLen := grownCap_le_maxLen w (n + m) old e h63
    refine ⟨⟨isSl_mk _ _ _ _ hge hcm, hlen, fun _ => ⟨hB, rfl, _, heap_alloc_new w.drew _, ?_, ?_⟩⟩, ⟨rfl, rfl, rfl, by simp, fun k hk _ => Below.heap_alloc w.drew _ k hk⟩⟩
    · simp only [Array.size_append, List.size_toArray, size_zeroCells, hzs, hl, hlx, ← Nat.add_mul, vcap_mk]
      exact Nat.mul_le_mul_right _ (by omega)
    · simp only [Array.toList_append, List.append_assoc]
      rw [← List.append_assoc]
      exact List.take_left
  have fresh : ∀ cap k, row (.slice (some ⟨w.heap.size, 0, none⟩) (n + m) cap) = some k → row (.slice a n c) = some k ∨ w.heap.size ≤ k := by
    intro cap k hk
    obtain ⟨_, hk⟩ := row_eq hk
    simp [vblk] at hk
    exact .inr (by omega)
  rcases Nat.eq_zero_or_pos c with hc0 | hc0
  · subst hc0
    have hn0 : n = 0 := by omega
    subst hn0
    have hcs : cs = [] := List.eq_nil_of_length_eq_zero (by rw [hl]; simp)
    subst hcs
    cases a with
    | none =>
      have hr := run_append_nil (P := P) w t ty e i z ht hi hz ⟨bx, ox, none⟩ m cx news hlx hnews (by omega) (by omega) (by have hb := hbytes; simp only [Nat.zero_add] at hb; omega)
      have hgr := grown 0 (by omega) (row (.slice none 0 0))
      have hfr := fresh (grownCap w m 0 e)
      simp only [Nat.zero_add, List.nil_append, Array.empty_append] at hgr hfr ⊢
      exact ⟨_, _, hr, hgr.1, hgr.2, hfr⟩
    | some b =>
      have hr := run_append_grow (P := P) w t ty e i z ht hi hz b 0 0 [] (by simp) (by simp) ⟨bx, ox, none⟩ m cx news hlx hnews (by omega) (by omega) (growslice_fits (by omega) hbytes)
      have hgr := grown 0 (by omega) (row (.slice (some b) 0 0))
      exact ⟨_, _, hr, hgr.1, hgr.2, fresh _⟩
  · obtain ⟨g, o, rfl⟩ := ha hc0
    obtain ⟨hBg, ho, cur, hg, hcs, htake⟩ := hown.2.2 hc0
    simp only [vblk_mk, vcap_mk] at hBg hg hcs
    have ho' : o = 0 := ho
    subst ho'
    by_cases hroom : n + m ≤ c
    · have hfit : n * i.size + news.length ≤ cur.size := by rw [hlx, ← Nat.add_mul]; exact Nat.le_trans (Nat.mul_le_mul_right _ hroom) hcs
      have hr := run_append_room (P := P) w t ty e i ht hi g n c cur hg ⟨bx, ox, none⟩ m cx news hlx hnews h1 hroom hfit
      refine ⟨_, _, hr, ⟨isSl_mk _ _ _ _ hroom hc, hlen, fun _ => ⟨hBg, rfl, _, setRow_heap w g cur _ e _ hg, ?_, ?_⟩⟩, ⟨rfl, rfl, rfl, by simp, fun k _ hk => setRow_other w g k _ (fun e => hk (by rw [row_some (v := .slice (some ⟨g, 0, none⟩) n c) hc0, vblk_mk, e]))⟩, fun k hk => .inl ?_⟩
      · simp only [List.size_toArray, List.length_append, List.length_take, List.length_drop, Array.length_toList, vcap_mk]
        omega
      · rw [← hl, htake]
        exact List.take_left
      · obtain ⟨_, hk⟩ := row_eq hk
        rw [row_some (v := .slice (some ⟨g, 0, none⟩) n c) hc0, vblk_mk]; simpa [vblk] using hk
    · have holds : ∀ j u, cs[j]? = some u → w.cell? ((⟨g, 0, none⟩ : Addr).add j) = some u := by
        intro j u hu; have := hown.sl.2.2 j u hu; rw [vat_mk] at this; rw [Addr.add_lit]; exact this
      have hr := run_append_grow (P := P) w t ty e i z ht hi hz ⟨g, 0, none⟩ n c cs hl holds ⟨bx, ox, none⟩ m cx news hlx hnews (by omega) (by omega) (growslice_fits (by omega) hbytes)
      have hgr := grown c (by omega) (row (.slice (some ⟨g, 0, none⟩) n c))
      exact ⟨_, _, hr, hgr.1, hgr.2, fresh _⟩

theorem wpList_append_sl {w : World} {ops : Array Oper} {rest : List Oper} {o : Oper} {a : Act} {Q : Exit → Act → World → Prop} (hgd : o.guard = none) (s x : Operand) (t : TypeId)
    (ho : o.op = .call { callee := .builtin .append, args := #[s, x], argTypes := #[t, t] })
    (B : Nat) (e : TypeId) (i : TypeInfo) (z : Value) (size bytes : Nat) (ht : P.underlying t = some (.slice e)) (hi : P.info? e = some i) (hz : i.zero = some z)
    (hsize : i.size = size) (hby : i.bytes = bytes) (hzs : z.cells.size = size) (hsz : 0 < size)
    {v y : Value} {cs news : List Value} (hs : a.eval s = v) (hy : a.eval x = y) (hown : Own w B e size v cs) (hx : Sl w y size news) (h1 : ∀ u ∈ news, u.oneCell' = true)
    (h63 : vlen v + vlen y ≤ maxLen) (hbytes : (vlen v + vlen y) * bytes ≤ 140737488355328) (hB : B ≤ w.heap.size)
    (h : ∀ v' w', Own w' B e size v' (cs ++ news) → w.grownBy w' (row v) → (∀ k, row v' = some k → row v = some k ∨ w.heap.size ≤ k) → wpList P ops Q rest (a.put o.dst v') w') : wpList P ops Q (o :: rest) a w := by
  refine wpList_plain hgd fun K hK => ?_
  obtain ⟨v', w', hr, h2, h3, h4⟩ := run_append_sl (P := P) w B t o.type e i z size bytes ht hi hz hsize hby hzs hsz hown hx h1 h63 hbytes hB
  unfold Oper.wp execOp
  simp only [ho, resolve, invoke, builtin, Sem.run_bind, Sem.run_pure, Result.andThen_ok, List.map_toArray, List.map_cons, List.map_nil, hs, hy, hr]
  exact hK _ _ (h v' w' h2 h3 h4)

end

end Go.Sl


/- Determinants over a commutative ring, by expansion along the first row: linear and alternating in the rows, and the only such function; products, transposed matrices. Plain algebra. -/
import Derived.Test.YtckopilciekfbaaQJonesMirror0
import Derived.Test.YtckopilciekfbaaQJonesMirror1
import Derived.Maps.OwnSet
import Derived.Maps.RangeWalk
import Derived.WideKeyArr
namespace Go.Mp
open Go Go.Maps Go.MapKept Go.ChangeMaps Go.RowKit

variable {P : Program} {k e t : TypeId} {w w' : World} {b r n cnt : Nat} {m : Value → Option Value} {left : Value → Prop}

/-- A value that is a key of type k. -/
def IsK (P : Program) (k : TypeId) (v : Value) : Prop := ∃ l, keyOf P k v = some l

/-- Block b is a map with n entries; m says what is held. -/
def MapV (P : Program) (k : TypeId) (w : World) (b n : Nat) (m : Value → Option Value) : Prop :=
  ∃ es clock, w.heap[b]? = some (.map es clock) ∧ Stamped es clock ∧ (∀ x ∈ es.toList, IsK P k x.key) ∧ es.size = n ∧ ∀ key v, m key = some v ↔ ∃ x ∈ es.toList, x.key = key ∧ x.val = v

/-- Block b holds a map of whatever content. -/
def IsMapB (w : World) (b : Nat) : Prop := ∃ es clock, w.heap[b]? = some (.map es clock)

theorem MapV.isMap (h : MapV P k w b n m) : IsMapB w b := by obtain ⟨es, c, h, _⟩ := h; exact ⟨es, c, h⟩
theorem MapV.lt (h : MapV P k w b n m) : b < w.heap.size := by obtain ⟨es, c, h, _⟩ := h; exact (Array.getElem?_eq_some_iff.1 h).1
theorem MapV.kept {row : Option Nat} (h : MapV P k w b n m) (hg : w.grownBy w' row) (hb : some b ≠ row) : MapV P k w' b n m := by
  have hl := h.lt
  obtain ⟨es, c, h, r⟩ := h
  exact ⟨es, c, (hg.block b hl hb).trans h, r⟩
theorem MapV.below (h : MapV P k w b n m) (hb : Below w.heap.size w w') : MapV P k w' b n m := by
  have hl := h.lt
  obtain ⟨es, c, h, r⟩ := h
  exact ⟨es, c, (hb.block b hl).trans h, r⟩
theorem MapV.alloc (h : MapV P k w b n m) (o : Obj) : MapV P k (w.alloc o) b n m := h.below ((Below.refl _ _).alloc (Nat.le_refl _) o)
theorem MapV.drew (h : MapV P k w b n m) : MapV P k w.drew b n m := h
theorem IsMapB.kept {row : Option Nat} (h : IsMapB w b) (hg : w.grownBy w' row) (hb : some b ≠ row) : IsMapB w' b := by
  obtain ⟨es, c, h⟩ := h
  exact ⟨es, c, (hg.block b (Array.getElem?_eq_some_iff.1 h).1 hb).trans h⟩
theorem mapV_made (w : World) : MapV P k (w.alloc (.map #[] 0)) w.heap.size 0 (fun _ => none) :=
  ⟨#[], 0, heap_alloc_new w _, stamped_empty 0, by simp, rfl, by simp⟩
theorem MapV.key (h : MapV P k w b n m) {key v : Value} (hm : m key = some v) : IsK P k key := by
  obtain ⟨es, c, _, _, hk, _, hm'⟩ := h
  obtain ⟨x, hx, rfl, _⟩ := (hm' key v).1 hm
  exact hk x hx
theorem MapV.congr {m' : Value → Option Value} (h : MapV P k w b n m) (e : ∀ key, m' key = m key) : MapV P k w b n m' := by
  obtain ⟨es, c, h1, h2, h3, h4, h5⟩ := h
  exact ⟨es, c, h1, h2, h3, h4, fun key v => by rw [e, h5]⟩

/-- 'm[key]' and 'v, ok := m[key]'. -/
theorem MapV.look (c : Bool) (h : MapV P k w b n m) (K : Keyed P k) (ht : P.underlying t = some (.map k e)) {z : Value} (hz : (zeroValue e).run P w = .ok z w) {key : Value} (hk : IsK P k key) :
    (Instr.lookup t (.map (some b)) key c).run P w = .ok (if c then .tuple #[(m key).getD z, .bool (m key).isSome] else (m key).getD z) w := by
  obtain ⟨es, clock, hb, hst, hks, rfl, hm⟩ := h
  obtain ⟨kl, hkey⟩ := hk
  rcases K.find w hkey es.toList hks with ⟨h1, h2⟩ | ⟨j, e0, h1, h2, h3⟩
  · have hn : m key = none := by
      cases hv : m key with
      | none => rfl
      | some v =>
        obtain ⟨x, hx, hxk, _⟩ := (hm key v).1 hv
        exact absurd hxk (h2 x hx)
    rw [hn]
    simp [Instr.lookup, run_underlying ht, MapKept.run_getObj_map hb, K.check w _ hkey, h1, hz, Result.andThen]
  · have hs : m key = some e0.val := (hm key e0.val).2 ⟨e0, List.mem_of_getElem? h2, h3, rfl⟩
    rw [hs]
    simp [Instr.lookup, run_underlying ht, MapKept.run_getObj_map hb, K.check w _ hkey, h1, Result.andThen]

theorem key_inj {es : Array MapEntry} {clock : Nat} (h : Stamped es clock) {x y : MapEntry} (hx : x ∈ es.toList) (hy : y ∈ es.toList) (e : x.key = y.key) : x = y :=
  entry_eq_of_key ((stamped_iff es clock).1 h).2.2 hx hy e

/-- 'm[key] = val'. -/
theorem MapV.store (h : MapV P k w b n m) (K : Keyed P k) (ht : P.underlying t = some (.map k e)) {key : Value} (val : Value) (hk : IsK P k key) :
    ∃ w' m', (Instr.mapUpdate t (.map (some b)) key val).run P w = .ok () w' ∧ MapV P k w' b (if (m key).isSome then n else n + 1) m' ∧ m' key = some val ∧ (∀ key', key' ≠ key → m' key' = m key') ∧ w.grownBy w' (some b) ∧ w'.heap.size = w.heap.size := by
  obtain ⟨es, clock, hb, hst, hks, rfl, hm⟩ := h
  obtain ⟨kl, hkey⟩ := hk
  classical
  have hg : ∀ o, w.grownBy (setBlock w b o) (some b) := fun o => ⟨rfl, rfl, rfl, by simp [setBlock], fun i _ hi => heap_setBlock_other hb _ (fun e => hi (by rw [e]))⟩
  rcases K.find w hkey es.toList hks with ⟨h1, h2⟩ | ⟨j, e0, h1, h2, h3⟩
  · have hn : m key = none := by
      cases hv : m key with
      | none => rfl
      | some v =>
        obtain ⟨x, hx, hxk, _⟩ := (hm key v).1 hv
        exact absurd hxk (h2 x hx)
    refine ⟨setBlock w b (.map (es.push ⟨key, val, clock⟩) (clock + 1)), fun k' => if k' = key then some val else m k', ?_, ⟨es.push ⟨key, val, clock⟩, clock + 1, heap_setBlock_same hb _, stamped_push hst h2, ?_, ?_, ?_⟩, if_pos rfl, fun k' hk' => if_neg hk', hg _, by simp [setBlock]⟩
    · simp [Instr.mapUpdate, run_underlying ht, MapKept.run_getObj_map hb, K.check w false hkey, h1, MapKept.run_setObj_map _ hb, Result.andThen, setBlock]
    · intro x hx
      simp only [Array.toList_push, List.mem_append, List.mem_singleton] at hx
      rcases hx with hx | rfl
      · exact hks x hx
      · exact ⟨kl, hkey⟩
    · rw [hn]; simp
    · intro k' v
      show (if k' = key then some val else m k') = some v ↔ _
      simp only [Array.toList_push, List.mem_append, List.mem_singleton]
      by_cases hk' : k' = key
      · rw [if_pos hk']
        constructor
        · intro h; cases h; exact ⟨_, .inr rfl, hk'.symm, rfl⟩
        · rintro ⟨x, hx | rfl, hxk, hxv⟩
          · exact absurd (hxk.trans hk') (h2 x hx)
          · exact congrArg some hxv
      · rw [if_neg hk', hm]
        constructor
        · rintro ⟨x, hx, hxk, hxv⟩; exact ⟨x, .inl hx, hxk, hxv⟩
        · rintro ⟨x, hx | rfl, hxk, hxv⟩
          · exact ⟨x, hx, hxk, hxv⟩
          · exact absurd hxk.symm hk'
  · have hj : es[j]? = some e0 := by simpa using h2
    have hjl : j < es.toList.length := (List.getElem?_eq_some_iff.1 h2).1
    have h0m : e0 ∈ es.toList := List.mem_of_getElem? h2
    have hs : m key = some e0.val := (hm key e0.val).2 ⟨e0, h0m, h3, rfl⟩
    have hkeyf : ∀ e', es[j]? = some e' → ({ e' with key := key, val := val } : MapEntry).key = e'.key := fun e' he' => by rw [hj] at he'; cases he'; exact h3.symm
    have hlist : (es.modify j (fun e' => { e' with key := key, val := val })).toList = es.toList.set j { e0 with key := key, val := val } := by rw [Array.toList_modify, modify_eq_set _ _ _ _ h2]
    have who : ∀ x, x ∈ es.toList.set j { e0 with key := key, val := val } ↔ x = { e0 with key := key, val := val } ∨ (x ∈ es.toList ∧ x.key ≠ key) := by
      intro x
      constructor
      · intro hx
        obtain ⟨i, hi, ex⟩ := List.getElem_of_mem hx
        rw [List.getElem_set] at ex
        split at ex
        · exact Or.inl ex.symm
        · rename_i hne
          have hi' : i < es.toList.length := by simpa using hi
          refine Or.inr ⟨ex ▸ List.getElem_mem hi', fun hxk => hne ?_⟩
          have hx' : es.toList[i] = e0 := key_inj hst (List.getElem_mem hi') h0m (by rw [ex, hxk, h3])
          have hnd := ((stamped_iff es clock).1 hst).2.1
          have e1 : (es.toList.map (·.born))[i]'(by simpa using hi') = (es.toList.map (·.born))[j]'(by simpa using hjl) := by
            rw [List.getElem_map, List.getElem_map, hx']
            have : es.toList[j] = e0 := by rw [List.getElem?_eq_getElem hjl] at h2; exact Option.some.inj h2
            rw [this]
          exact ((List.getElem_inj hnd).1 e1).symm
      · rintro (rfl | ⟨hx, hxk⟩)
        · exact List.mem_iff_getElem.2 ⟨j, by simpa using hjl, by simp⟩
        · obtain ⟨i, hi, ex⟩ := List.getElem_of_mem hx
          refine List.mem_iff_getElem.2 ⟨i, by simpa using hi, ?_⟩
          rw [List.getElem_set_ne, ex]
          rintro rfl
          have : es.toList[j] = e0 := by rw [List.getElem?_eq_getElem hjl] at h2; exact Option.some.inj h2
          rw [this] at ex
          exact hxk (by rw [← ex, h3])
    refine ⟨setBlock w b (.map (es.modify j (fun e' => { e' with key := key, val := val })) clock), fun k' => if k' = key then some val else m k', ?_,
      ⟨es.modify j (fun e' => { e' with key := key, val := val }), clock, heap_setBlock_same hb _, stamped_modify hst _ _ (fun _ _ => rfl) (fun e' _ he' => hkeyf e' he'), ?_, ?_, ?_⟩, if_pos rfl, fun k' hk' => if_neg hk', hg _, by simp [setBlock]⟩
    · simp [Instr.mapUpdate, run_underlying ht, MapKept.run_getObj_map hb, K.check w false hkey, h1, hj, h3, K.stays w hkey, MapKept.run_setObj_map _ hb, Result.andThen, setBlock]
    · intro x hx
      rw [hlist] at hx
      rcases (who x).1 hx with rfl | ⟨hx, _⟩
      · exact ⟨kl, hkey⟩
      · exact hks x hx
    · rw [hs]; simp
    · intro k' v
      show (if k' = key then some val else m k') = some v ↔ _
      rw [hlist]
      by_cases hk' : k' = key
      · rw [if_pos hk']
        constructor
        · intro h; cases h; exact ⟨_, (who _).2 (.inl rfl), hk'.symm, rfl⟩
        · rintro ⟨x, hx, hxk, hxv⟩
          rcases (who x).1 hx with rfl | ⟨_, hne⟩
          · exact congrArg some hxv
          · exact absurd (hxk.trans hk') hne
      · rw [if_neg hk', hm]
        constructor
        · rintro ⟨x, hx, hxk, hxv⟩; exact ⟨x, (who x).2 (.inr ⟨hx, by rw [hxk]; exact hk'⟩), hxk, hxv⟩
        · rintro ⟨x, hx, hxk, hxv⟩
          rcases (who x).1 hx with rfl | ⟨hx, _⟩
          · exact absurd hxk.symm hk'
          · exact ⟨x, hx, hxk, hxv⟩

/-- A range over the map is under way: block r is its iterator; left says which keys are still to come, cnt how many. -/
def RangeV (P : Program) (k : TypeId) (w : World) (b r n : Nat) (m : Value → Option Value) (left : Value → Prop) (cnt : Nat) : Prop :=
  ∃ es clock since seen c0, w.heap[b]? = some (.map es clock) ∧ Stamped es clock ∧ (∀ x ∈ es.toList, IsK P k x.key) ∧ es.size = n ∧ (∀ key v, m key = some v ↔ ∃ x ∈ es.toList, x.key = key ∧ x.val = v) ∧
    w.heap[r]? = some (.mapIter (some b) since seen c0) ∧ (∀ x ∈ es.toList, x.born < since) ∧ (leftOf es seen).size = cnt ∧ (∀ x ∈ es.toList, left x.key ↔ seen.contains x.born = false) ∧ since ≤ c0 ∧ since ≤ clock

theorem RangeV.mapV (h : RangeV P k w b r n m left cnt) : MapV P k w b n m := by
  obtain ⟨es, clock, since, seen, c0, h1, h2, h3, h4, h5, _⟩ := h
  exact ⟨es, clock, h1, h2, h3, h4, h5⟩
theorem RangeV.lt (h : RangeV P k w b r n m left cnt) : r < w.heap.size := by
  obtain ⟨es, clock, since, seen, c0, _, _, _, _, _, hr, _⟩ := h
  exact (Array.getElem?_eq_some_iff.1 hr).1
theorem RangeV.kept {row : Option Nat} (h : RangeV P k w b r n m left cnt) (hg : w.grownBy w' row) (hb : some b ≠ row) (hr : some r ≠ row) : RangeV P k w' b r n m left cnt := by
  have h1 := h.mapV.lt
  have h2 := h.lt
  obtain ⟨es, clock, since, seen, c0, e1, e2, e3, e4, e5, e6, rest⟩ := h
  exact ⟨es, clock, since, seen, c0, (hg.block b h1 hb).trans e1, e2, e3, e4, e5, (hg.block r h2 hr).trans e6, rest⟩
theorem RangeV.below (h : RangeV P k w b r n m left cnt) (hb : Below w.heap.size w w') : RangeV P k w' b r n m left cnt := by
  have h1 := h.mapV.lt
  have h2 := h.lt
  obtain ⟨es, clock, since, seen, c0, e1, e2, e3, e4, e5, e6, rest⟩ := h
  exact ⟨es, clock, since, seen, c0, (hb.block b h1).trans e1, e2, e3, e4, e5, (hb.block r h2).trans e6, rest⟩
theorem RangeV.ne (h : RangeV P k w b r n m left cnt) : r ≠ b := by
  obtain ⟨es, clock, since, seen, c0, hb, _, _, _, _, hr, _⟩ := h
  intro e
  rw [e, hb] at hr
  cases hr

/-- 'range m'. -/
theorem MapV.range (h : MapV P k w b n m) (ht : P.underlying t = some (.map k e)) :
    ∃ w', (Instr.range t (.map (some b))).run P w = .ok (.pointer (some ⟨w.heap.size, 0, none⟩)) w' ∧ RangeV P k w' b w.heap.size n m (fun _ => True) n ∧ Below w.heap.size w w' ∧ w'.heap.size = w.heap.size + 1 := by
  have hlt := h.lt
  obtain ⟨es, clock, hb, hst, hk, hn, hm⟩ := h
  refine ⟨_, run_range_map w t k e b es clock ht hb, ⟨es, clock, clock, #[], clock, ((MapKept.heap_alloc w _).2 b hlt).trans hb, hst, hk, hn, hm, (MapKept.heap_alloc w _).1, hst.1, ?_, fun x _ => by simp, Nat.le_refl _, Nat.le_refl _⟩, (Below.refl _ _).alloc (Nat.le_refl _) _, by simp⟩
  simp [leftOf, ← hn]

/-- The step: nothing is left, or one of the keys that are left, whichever. -/
theorem RangeV.next (h : RangeV P k w b r n m left cnt) (ty : TypeId) :
    (cnt = 0 ∧ (∀ key v, m key = some v → ¬ left key) ∧ (Instr.next (.pointer (some ⟨r, 0, none⟩)) false ty).run P w = .ok (.tuple #[.bool false]) w) ∨
    ∃ key v w' cnt', m key = some v ∧ left key ∧ (Instr.next (.pointer (some ⟨r, 0, none⟩)) false ty).run P w = .ok (.tuple #[.bool true, key, v]) w' ∧
      RangeV P k w' b r n m (fun z => left z ∧ z ≠ key) cnt' ∧ cnt' < cnt ∧ w.grownBy w' (some r) ∧ w'.heap.size = w.heap.size ∧ (Instr.entry (.pointer (some ⟨r, 0, none⟩))).run P w' = .ok (.tuple #[key, v]) w' := by
  have hne := h.ne
  obtain ⟨es, clock, since, seen, c0, hb, hst, hks, hn, hm, hr, hold, rfl, hl, hsc, hsk⟩ := h
  have hs3 := (stamped_iff es clock).1 hst
  rcases run_next_at (P := P) w ty r b since c0 seen es clock hr hb hold hsc with ⟨h0, hrun⟩ | ⟨e, he, w1, hal, hrun⟩
  · refine Or.inl ⟨h0, fun key v hkv hlk => ?_, hrun⟩
    obtain ⟨x, hx, rfl, _⟩ := (hm key v).1 hkv
    have h1 := (hl x hx).1 hlk
    rw [all_seen es seen h0 x hx] at h1
    cases h1
  · obtain ⟨hem, hes⟩ := mem_left he
    have hr1 : w1.heap[r]? = some (.mapIter (some b) since seen c0) := by rcases hal with rfl | rfl <;> exact hr
    have hb1 : w1.heap[b]? = some (.map es clock) := by rcases hal with rfl | rfl <;> exact hb
    have hset := heap_set (o' := .mapIter (some b) since (seen.push e.born) clock) hr1
    have hb' : (setBlock w1 r (.mapIter (some b) since (seen.push e.born) clock)).heap[b]? = some (.map es clock) := (hset.2 b (fun e1 => hne e1.symm)).trans hb1
    refine Or.inr ⟨e.key, e.val, _, _, (hm _ _).2 ⟨e, hem, rfl, rfl⟩, (hl e hem).2 hes, hrun,
      ⟨es, clock, since, seen.push e.born, clock, hb', hst, hks, hn, hm, hset.1, hold, rfl, fun x hx => ?_, hsk, hsk⟩, left_shrinks es seen e he, ?_, ?_,
      run_entry_at _ r b since seen es clock e hset.1 hb' hem hs3.2.1⟩
    · rw [contains_push]
      show left x.key ∧ x.key ≠ e.key ↔ _
      rw [hl x hx]
      by_cases hbe : x.born = e.born
      · obtain rfl := born_inj hs3.2.1 hx hem hbe
        simp
      · have : x.key ≠ e.key := fun h => hbe (congrArg MapEntry.born (entry_eq_of_key hs3.2.2 hx hem h))
        simp [hbe, this]
    · rcases hal with rfl | rfl <;> exact ⟨rfl, rfl, rfl, by simp [setBlock], fun i _ hi => hset.2 i (fun e1 => hi (by rw [e1]))⟩
    · rcases hal with rfl | rfl <;> simp [setBlock]

section
variable {ops : Array Oper} {rest : List Oper} {o : Oper} {a : Act} {Q : Exit → Act → World → Prop}
/-- 'range m' at the operation. -/
theorem wpList_rangeV (hg : o.guard = none) (x : Operand) (t : TypeId) (hop : o.op = Op.range t x) {e : TypeId} (ht : P.underlying t = some (.map k e)) (hx : a.eval x = .map (some b)) (h : MapV P k w b n m)
    (hK : ∀ w', RangeV P k w' b w.heap.size n m (fun _ => True) n → Below w.heap.size w w' → w'.heap.size = w.heap.size + 1 → wpList P ops Q rest (a.put o.dst (.pointer (some ⟨w.heap.size, 0, none⟩))) w') : wpList P ops Q (o :: rest) a w := by
  refine wpList_plain hg fun K' hK' => ?_
  obtain ⟨w', hrun, r1, r2, r3⟩ := h.range ht
  unfold Oper.wp
  simp [execOp, hop, hx, hrun, Result.andThen]
  exact hK' _ _ (hK w' r1 r2 r3)
/-- The step at the operation. -/
theorem wpList_nextV (hg : o.guard = none) (it : Operand) (hop : o.op = Op.next it false) (hit : a.eval it = .pointer (some ⟨r, 0, none⟩)) (h : RangeV P k w b r n m left cnt)
    (hDone : cnt = 0 → (∀ key v, m key = some v → ¬ left key) → wpList P ops Q rest (a.put o.dst (.tuple #[.bool false])) w)
    (hMore : ∀ key v w' cnt', m key = some v → left key → RangeV P k w' b r n m (fun z => left z ∧ z ≠ key) cnt' → cnt' < cnt → w.grownBy w' (some r) → w'.heap.size = w.heap.size →
      (Instr.entry (.pointer (some ⟨r, 0, none⟩))).run P w' = .ok (.tuple #[key, v]) w' → wpList P ops Q rest (a.put o.dst (.tuple #[.bool true, key, v])) w') : wpList P ops Q (o :: rest) a w := by
  refine wpList_plain hg fun K' hK' => ?_
  unfold Oper.wp
  rcases h.next o.type with ⟨h0, hl, hrun⟩ | ⟨key, v, w', cnt', hm, hl, hrun, hrg, hlt, hgr, hsz, hen⟩
  · simp [execOp, hop, hit, hrun, Result.andThen]
    exact hK' _ _ (hDone h0 hl)
  · simp [execOp, hop, hit, hrun, Result.andThen]
    exact hK' _ _ (hMore key v w' cnt' hm hl hrg hlt hgr hsz hen)
/-- An entry of a literal, at the operation. -/
theorem wpList_insertV (hg : o.guard = none) (x y v : Operand) (t : TypeId) (hop : o.op = Op.insert t x y v) (K : Keyed P k) {e : TypeId} (ht : P.underlying t = some (.map k e)) (hx : a.eval x = .map (some b)) (h : MapV P k w b n m)
    {key val : Value} (hy : a.eval y = key) (hv : a.eval v = val) (hk : IsK P k key)
    (hK : ∀ w' m', MapV P k w' b (if (m key).isSome then n else n + 1) m' → m' key = some val → (∀ key', key' ≠ key → m' key' = m key') → w.grownBy w' (some b) → w'.heap.size = w.heap.size → wpList P ops Q rest (a.put o.dst undef) w') : wpList P ops Q (o :: rest) a w := by
  refine wpList_plain hg fun K' hK' => ?_
  obtain ⟨w', m', hrun, r1, r2, r3, r4, r5⟩ := h.store K ht val hk
  unfold Oper.wp
  simp [execOp, hop, hx, hy, hv, hrun, Result.andThen]
  exact hK' _ _ (hK w' m' r1 r2 r3 r4 r5)
end

/-- A slice that is read is no map: a map's block may be written. -/
theorem Sl_grown_map {w w' : World} {v : Value} {s : Nat} {cs : List Value} (h : Sl.Sl w v s cs) (hg : w.grownBy w' (some b)) (hb : IsMapB w b) : Sl.Sl w' v s cs := by
  refine ⟨h.1, h.2.1, fun j u hu => ?_⟩
  have h1 := h.2.2 j u hu
  have hlt := World.block_lt_of_cell? w _ h1
  have hne : Sl.vblk v ≠ b := by
    obtain ⟨es, c, hb⟩ := hb
    intro e
    simp [World.cell?, Sl.vat, e, hb] at h1
  rw [World.cell?_of_block (w := w) (a := Sl.vat v j) (hg.block _ hlt (fun e => hne (by injection e)))]
  exact h1
theorem Sl_grown_iter {w w' : World} {v : Value} {s : Nat} {cs : List Value} (h : Sl.Sl w v s cs) (hg : w.grownBy w' (some r)) (hb : ∃ x y z u, w.heap[r]? = some (.mapIter x y z u)) : Sl.Sl w' v s cs := by
  refine ⟨h.1, h.2.1, fun j u hu => ?_⟩
  have h1 := h.2.2 j u hu
  have hlt := World.block_lt_of_cell? w _ h1
  have hne : Sl.vblk v ≠ r := by
    obtain ⟨x, y, z, c, hb⟩ := hb
    intro e
    simp [World.cell?, Sl.vat, e, hb] at h1
  rw [World.cell?_of_block (w := w) (a := Sl.vat v j) (hg.block _ hlt (fun e => hne (by injection e)))]
  exact h1
theorem RangeV.iter (h : RangeV P k w b r n m left cnt) : ∃ x y z u, w.heap[r]? = some (.mapIter x y z u) := by
  obtain ⟨es, clock, since, seen, c0, _, _, _, _, _, hr, _⟩ := h
  exact ⟨_, _, _, _, hr⟩

end Go.Mp

namespace Go.Det
open Lean.Grind (CommRing)
variable {R : Type} [CommRing R]

def sumN (f : Nat → R) : Nat → R
  | 0 => 0
  | n + 1 => sumN f n + f n
def upd (A : Nat → Nat → R) (r : Nat) (f : Nat → R) : Nat → Nat → R := fun i => if i = r then f else A i
omit [CommRing R] in
theorem upd_same (A : Nat → Nat → R) (r : Nat) (f : Nat → R) : upd A r f r = f := by simp [upd]
omit [CommRing R] in
theorem upd_other (A : Nat → Nat → R) {r i : Nat} (f : Nat → R) (h : i ≠ r) : upd A r f i = A i := by simp [upd, h]
omit [CommRing R] in
theorem upd_self (A : Nat → Nat → R) (r : Nat) : upd A r (A r) = A := by funext i; unfold upd; split <;> simp_all
omit [CommRing R] in
theorem upd_comm (A : Nat → Nat → R) {r s : Nat} (f g : Nat → R) (h : r ≠ s) : upd (upd A r f) s g = upd (upd A s g) r f := by
  funext i; unfold upd; by_cases h1 : i = s <;> by_cases h2 : i = r <;> simp_all

/-- Linear in each row, zero if two neighbouring rows are equal, and dependent on n rows and columns only. -/
structure Alt (n : Nat) (F : (Nat → Nat → R) → R) : Prop where
  congr : ∀ {A B : Nat → Nat → R}, (∀ i j, i < n → j < n → A i j = B i j) → F A = F B
  lin : ∀ (A : Nat → Nat → R) (r : Nat) (a b : R) (f g : Nat → R), r < n → F (upd A r (fun j => a * f j + b * g j)) = a * F (upd A r f) + b * F (upd A r g)
  adj : ∀ (A : Nat → Nat → R) (r : Nat), r + 1 < n → (∀ j, j < n → A r j = A (r + 1) j) → F A = 0

namespace Alt
variable {n : Nat} {F : (Nat → Nat → R) → R}
theorem add (h : Alt n F) (A : Nat → Nat → R) (r : Nat) (f g : Nat → R) (hr : r < n) : F (upd A r (fun j => f j + g j)) = F (upd A r f) + F (upd A r g) := by
  have e := h.lin A r 1 1 f g hr
  have e2 : (fun j => (1 : R) * f j + 1 * g j) = fun j => f j + g j := by funext j; grind
  rw [e2] at e; rw [e]; grind
theorem smul (h : Alt n F) (A : Nat → Nat → R) (r : Nat) (a : R) (f : Nat → R) (hr : r < n) : F (upd A r (fun j => a * f j)) = a * F (upd A r f) := by
  have e := h.lin A r a 0 f f hr
  have e2 : (fun j => a * f j + 0 * f j) = fun j => a * f j := by funext j; grind
  rw [e2] at e; rw [e]; grind
/-- From 'zero if rows p and q are equal' to 'a swap of both changes the sign'. -/
theorem swapOf (h : Alt n F) {p q : Nat} (hp : p < n) (hq : q < n) (hpq : p ≠ q) (hz : ∀ A : Nat → Nat → R, (∀ j, j < n → A p j = A q j) → F A = 0) (A : Nat → Nat → R) (f g : Nat → R) :
    F (upd (upd A p f) q g) = -F (upd (upd A p g) q f) := by
  have z := hz (upd (upd A p (fun j => f j + g j)) q (fun j => f j + g j)) (fun j _ => by rw [upd_other _ _ hpq, upd_same, upd_same])
  rw [h.add _ q f g hq, upd_comm _ _ _ hpq, upd_comm A _ _ hpq, h.add _ p f g hp, h.add _ p f g hp] at z
  have z1 := hz (upd (upd A q f) p f) (fun j _ => by rw [upd_same, upd_other _ _ hpq.symm, upd_same])
  have z2 := hz (upd (upd A q g) p g) (fun j _ => by rw [upd_same, upd_other _ _ hpq.symm, upd_same])
  rw [z1, z2] at z
  rw [upd_comm A f g hpq, upd_comm A g f hpq]
  grind
theorem zero_of (h : Alt n F) (d : Nat) : ∀ (p : Nat) (A : Nat → Nat → R), p + d + 1 < n → (∀ j, j < n → A p j = A (p + d + 1) j) → F A = 0 := by
  induction d with
  | zero => intro p A hp he; exact h.adj A p hp he
  | succ d ih =>
    intro p A hp he
    have s := h.swapOf (p := p + d + 1) (q := p + d + 1 + 1) (by omega) (by omega) (by omega) (fun B hB => h.adj B _ (by omega) hB) A (A (p + d + 1)) (A (p + d + 1 + 1))
    rw [upd_self, upd_self] at s
    rw [s, ih p _ (by omega) (fun j hj => by
      rw [upd_other _ _ (show p ≠ p + d + 1 + 1 by omega), upd_other _ _ (show p ≠ p + d + 1 by omega), upd_other _ _ (show p + d + 1 ≠ p + d + 1 + 1 by omega), upd_same]
      exact he j hj)]
    grind
theorem zero (h : Alt n F) {p q : Nat} (hp : p < n) (hq : q < n) (hpq : p ≠ q) (A : Nat → Nat → R) (he : ∀ j, j < n → A p j = A q j) : F A = 0 := by
  rcases Nat.lt_or_gt_of_ne hpq with hl | hl
  · have := h.zero_of (q - p - 1) p A (by omega)
    rw [show p + (q - p - 1) + 1 = q by omega] at this
    exact this he
  · have := h.zero_of (p - q - 1) q A (by omega)
    rw [show q + (p - q - 1) + 1 = p by omega] at this
    exact this fun j hj => (he j hj).symm
theorem swap (h : Alt n F) {p q : Nat} (hp : p < n) (hq : q < n) (hpq : p ≠ q) (A : Nat → Nat → R) (f g : Nat → R) :
    F (upd (upd A p f) q g) = -F (upd (upd A p g) q f) := h.swapOf hp hq hpq (fun B hB => h.zero hp hq hpq B hB) A f g
/-- A row that is a sum of multiples of rows. -/
theorem sum (h : Alt n F) (A : Nat → Nat → R) {r : Nat} (hr : r < n) (a : Nat → R) (f : Nat → Nat → R) (m : Nat) : F (upd A r (fun j => sumN (fun k => a k * f k j) m)) = sumN (fun k => a k * F (upd A r (f k))) m := by
  induction m with
  | zero =>
    have e := h.smul A r 0 (fun _ => 0) hr
    have e2 : (fun j => sumN (fun k => a k * f k j) 0) = fun _ => (0 : R) * 0 := by funext j; simp only [sumN]; grind
    rw [e2, e]; simp only [sumN]; grind
  | succ m ih =>
    have e2 : (fun j => sumN (fun k => a k * f k j) (m + 1)) = fun j => sumN (fun k => a k * f k j) m + a m * f m j := by funext j; rfl
    rw [e2, h.add A r _ _ hr, ih, h.smul A r _ _ hr]; rfl
end Alt

def mul (n : Nat) (A B : Nat → Nat → R) : Nat → Nat → R := fun i j => sumN (fun k => A i k * B k j) n
end Go.Det


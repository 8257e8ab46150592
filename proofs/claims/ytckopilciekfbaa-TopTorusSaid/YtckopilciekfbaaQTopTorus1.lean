/- Determinants over a commutative ring, by expansion along the first row: linear and alternating in the rows, and the only such function; products, transposed matrices. Plain algebra. -/
import Derived.Test.YtckopilciekfbaaQTopTorus0
import Derived.Maps.OwnSet
import Derived.Maps.RangeWalk
import Derived.WideKeyArr
namespace Go.TL

def lnAt (L : List (List Nat)) (i : Nat) : List Nat := L.getD i []
def addLn (L : List (List Nat)) (a b : Nat) : List (List Nat) := (L.set a (lnAt L a ++ [b])).set b (lnAt (L.set a (lnAt L a ++ [b])) b ++ [a])
def find (p : Nat) : List Nat → Nat → Option Nat
  | [], _ => none
  | x :: l, i => if x = p then some i else find p l (i + 1)
/-- Follows lines and takes them away. -/
def tlWalk : Nat → List (List Nat) → Nat → Option (Nat × List (List Nat))
  | 0, L, p => match lnAt L p with
    | [] => some (p, L)
    | _ :: _ => none
  | f + 1, L, p => match lnAt L p with
    | [] => some (p, L)
    | q :: rest =>
      if q < L.length then
        match find p (lnAt (L.set p rest) q) 0 with
        | none => none
        | some i => tlWalk f ((L.set p rest).set q ((lnAt (L.set p rest) q).eraseIdx i)) q
      else none
/-- Counts the loops, for the points from p on. -/
def tlLoops : Nat → List (List Nat) → Nat → Nat → Option Nat
  | 0, _, _, c => some c
  | k + 1, L, p, c => match lnAt L p with
    | [] => tlLoops k L (p + 1) c
    | _ :: _ => match tlWalk 40 L p with
      | none => none
      | some (_, L') => tlLoops k L' (p + 1) (c + 1)
def putLines (n : Nat) (a b : List Nat) : Nat → List (List Nat)
  | 0 => List.replicate (3 * n) []
  | i + 1 =>
    let L := putLines n a b i
    let L1 := if i < a.getD i 0 then addLn L i (a.getD i 0) else L
    if i < b.getD i 0 then addLn L1 (n + i) (n + b.getD i 0) else L1
def pnt (n p : Nat) : Nat := if n ≤ p then p - n else p
def putEnds (n : Nat) : Nat → List (List Nat) → Nat → List Nat → Option (List Nat × List (List Nat))
  | 0, L, _, out => some (out, L)
  | k + 1, L, p, out =>
    if p < n ∨ 2 * n ≤ p then
      match lnAt L p with
      | [] => putEnds n k L (p + 1) out
      | _ :: _ => match tlWalk 40 L p with
        | none => none
        | some (q, L') => putEnds n k L' (p + 1) ((out.set (pnt n p) (pnt n q)).set (pnt n q) (pnt n p))
    else putEnds n k L (p + 1) out
/-- a on top of b, and the number of loops. -/
def putL (n : Nat) (a b : List Nat) : Option (List Nat × Nat) :=
  match putEnds n (3 * n) (putLines n a b (2 * n)) 0 (List.replicate (2 * n) 0) with
  | none => none
  | some (out, L) => match tlLoops (3 * n) L 0 0 with
    | none => none
    | some c => some (out, c)
def closeLines (n : Nat) (d : List Nat) : Nat → List (List Nat)
  | 0 => List.replicate (2 * n) []
  | i + 1 =>
    let L := closeLines n d i
    let L1 := if i < d.getD i 0 then addLn L i (d.getD i 0) else L
    if i < n then addLn L1 i (n + i) else L1
def closeL (n : Nat) (d : List Nat) : Option Nat := tlLoops (2 * n) (closeLines n d (2 * n)) 0 0
def oneL (n : Nat) : List Nat := (List.range (2 * n)).map fun i => if i < n then n + i else i - n
def cupL (n i : Nat) : List Nat := ((((oneL n).set (i - 1) i).set i (i - 1)).set (n + i - 1) (n + i)).set (n + i) (n + i - 1)

/-- One step of the closure under generators. -/
def stepG (n : Nat) (S : List (List Nat)) : List (List Nat) :=
  S.foldl (fun acc d => (List.range (n - 1)).foldl (fun acc g => match putL n d (cupL n (g + 1)) with
    | some (e, _) => if acc.contains e then acc else acc ++ [e]
    | none => acc) acc) S
def iter (n : Nat) : Nat → List (List Nat) → List (List Nat)
  | 0, S => S
  | k + 1, S => iter n k (stepG n S)
theorem t5 : (iter 5 7 [oneL 5]).length = 42 := by decide +kernel

end Go.TL

namespace Go.TL

def force (N : Nat) (f : Nat → Nat) : Nat := match N with
  | 0 => f 0
  | k + 1 => f (Nat.succ k)
theorem force_eq (N : Nat) (f : Nat → Nat) : force N f = f N := by cases N <;> rfl
/-- row i of the code N: two entries of 5 bits (0: none) -/
def row (N i : Nat) : Nat := Nat.mod (Nat.shiftRight N (Nat.mul 10 i)) 1024
/-- x behind row i; k goes on with it; 0 if there is no room -/
def app (N i x : Nat) (k : Nat → Nat) : Nat :=
  force (row N i) fun r =>
  bif Nat.beq r 0 then force (Nat.add N (Nat.shiftLeft (Nat.succ x) (Nat.mul 10 i))) k
  else bif Nat.ble r 31 then force (Nat.add N (Nat.shiftLeft (Nat.succ x) (Nat.add (Nat.mul 10 i) 5))) k else 0
def fline (N a b : Nat) (k : Nat → Nat) : Nat := app N a b fun M => app M b a k
def flineIf (c : Bool) (N a b : Nat) (k : Nat → Nat) : Nat := bif c then fline N a b k else k N
def flines (n : Nat) : List Nat → List Nat → Nat → Nat → (Nat → Nat) → Nat
  | [], _, _, N, k => k N
  | _ :: _, [], _, _, _ => 0
  | x :: A, y :: B, i, N, k => flineIf (Nat.ble (Nat.succ i) x) N i x fun M => flineIf (Nat.ble (Nat.succ i) y) M (Nat.add n i) (Nat.add n y) fun M => flines n A B (Nat.succ i) M k
/-- walk, then k on the end and the new code -/
def fwalk : Nat → Nat → Nat → (Nat → Nat → Nat) → Nat
  | 0, _, _, _ => 0
  | f + 1, N, p, k => match row N p with
    | 0 => k p N
    | r1 + 1 =>
      force (Nat.mod r1 32) fun q =>
      force (Nat.sub N (Nat.shiftLeft (Nat.sub (Nat.succ r1) (Nat.shiftRight (Nat.succ r1) 5)) (Nat.mul 10 p))) fun M =>
      force (row M q) fun s =>
      bif Nat.beq (Nat.mod s 32) (Nat.succ p) then force (Nat.sub M (Nat.shiftLeft (Nat.sub s (Nat.shiftRight s 5)) (Nat.mul 10 q))) fun M' => fwalk f M' q k
      else bif Nat.beq (Nat.shiftRight s 5) (Nat.succ p) then force (Nat.sub M (Nat.shiftLeft (Nat.sub s (Nat.mod s 32)) (Nat.mul 10 q))) fun M' => fwalk f M' q k
      else 0
def dig (N i : Nat) : Nat := Nat.mod (Nat.shiftRight N (Nat.mul 4 i)) 16
def fpnt (n p : Nat) : Nat := bif Nat.ble n p then Nat.sub p n else p
def setD (O i x : Nat) : Nat := Nat.sub (Nat.add O (Nat.shiftLeft x (Nat.mul 4 i))) (Nat.shiftLeft (dig O i) (Nat.mul 4 i))
def fends (n : Nat) : Nat → Nat → Nat → Nat → (Nat → Nat → Nat) → Nat
  | 0, _, N, O, k => k N O
  | m + 1, p, N, O, k =>
    bif or (Nat.ble (Nat.succ p) n) (Nat.ble (Nat.mul 2 n) p) then match row N p with
      | 0 => fends n m (Nat.succ p) N O k
      | _ + 1 => fwalk 41 N p fun q M =>
        force (setD (setD O (fpnt n p) (fpnt n q)) (fpnt n q) (fpnt n p)) fun O' => fends n m (Nat.succ p) M O' k
    else fends n m (Nat.succ p) N O k
def floops : Nat → Nat → Nat → Nat → (Nat → Nat) → Nat
  | 0, _, _, c, k => k c
  | m + 1, p, N, c, k => match row N p with
    | 0 => floops m (Nat.succ p) N c k
    | _ + 1 => fwalk 41 N p fun _ M => floops m (Nat.succ p) M (Nat.succ c) k
/-- out * 64 + loops + 1; 0: failed -/
def fput (n : Nat) (A B : List Nat) : Nat := flines n A B 0 0 fun N => fends n (Nat.mul 3 n) 0 N 0 fun M O => floops (Nat.mul 3 n) 0 M 0 fun c => Nat.succ (Nat.add (Nat.mul 64 O) c)

def rowC : List Nat → Nat
  | [] => 0
  | [x] => x + 1
  | x :: y :: _ => (x + 1) + 32 * (y + 1)
def encL : List (List Nat) → Nat
  | [] => 0
  | r :: L => rowC r + 1024 * encL L
/-- Rows of at most two entries below m. -/
def ROK (m : Nat) (L : List (List Nat)) : Prop := ∀ r ∈ L, r.length ≤ 2 ∧ ∀ x ∈ r, x < m
theorem rowC_lt {r : List Nat} (h1 : r.length ≤ 2) (h2 : ∀ x ∈ r, x < 31) : rowC r < 1024 := by
  match r, h1, h2 with
  | [], _, _ => simp [rowC]
  | [x], _, h => have := h x (by simp); simp only [rowC]; omega
  | [x, y], _, h => have h1 := h x (by simp); have h2 := h y (by simp); simp only [rowC]; omega
theorem shr10 (N i : Nat) : Nat.shiftRight N (Nat.mul 10 (i + 1)) = Nat.shiftRight (N / 1024) (Nat.mul 10 i) := by
  show N >>> (10 * (i + 1)) = (N / 1024) >>> (10 * i)
  rw [Nat.shiftRight_eq_div_pow, Nat.shiftRight_eq_div_pow, Nat.div_div_eq_div_mul]
  congr 1
  rw [show (1024 : Nat) = 2 ^ 10 by decide, ← Nat.pow_add]; congr 1; omega
theorem lnAt_cons_succ (r : List Nat) (L : List (List Nat)) (i : Nat) : lnAt (r :: L) (i + 1) = lnAt L i := by simp [lnAt]
theorem lnAt_cons_zero (r : List Nat) (L : List (List Nat)) : lnAt (r :: L) 0 = r := by simp [lnAt]
theorem row_enc {m : Nat} (hm : m ≤ 31) : ∀ (L : List (List Nat)), ROK m L → ∀ i, row (encL L) i = rowC (lnAt L i)
  | [], _, i => by
    show (0 >>> (10 * i)) % 1024 = _
    rw [Nat.zero_shiftRight]; simp [lnAt, rowC]
  | r :: L, h, 0 => by
    have := h r (by simp)
    have h1 := rowC_lt this.1 (fun x hx => by have := this.2 x hx; omega)
    show ((rowC r + 1024 * encL L) >>> (10 * 0)) % 1024 = _
    rw [lnAt_cons_zero, Nat.mul_zero, Nat.shiftRight_zero]; omega
  | r :: L, h, i + 1 => by
    have := h r (by simp)
    have h1 := rowC_lt this.1 (fun x hx => by have := this.2 x hx; omega)
    rw [lnAt_cons_succ, ← row_enc hm L (fun r hr => h r (by simp [hr])) i]
    show Nat.mod (Nat.shiftRight (rowC r + 1024 * encL L) (Nat.mul 10 (i + 1))) 1024 = _
    rw [shr10, show (rowC r + 1024 * encL L) / 1024 = encL L by omega]; rfl
theorem shl10 (x i : Nat) : x <<< (10 * (i + 1)) = 1024 * (x <<< (10 * i)) := by
  rw [Nat.shiftLeft_eq, Nat.shiftLeft_eq, show 10 * (i + 1) = 10 * i + 10 by omega, Nat.pow_add, show (2 : Nat) ^ 10 = 1024 by decide, ← Nat.mul_assoc, Nat.mul_comm]
theorem enc_set (r : List Nat) : ∀ (L : List (List Nat)) (i : Nat), i < L.length → encL (L.set i r) + rowC (lnAt L i) <<< (10 * i) = encL L + rowC r <<< (10 * i)
  | s :: L, 0, _ => by rw [lnAt_cons_zero]; simp only [List.set_cons_zero, encL, Nat.mul_zero, Nat.shiftLeft_zero]; omega
  | s :: L, i + 1, h => by
    have := enc_set r L i (by simpa using h)
    rw [lnAt_cons_succ, List.set_cons_succ, shl10, shl10]; simp only [encL]; omega
theorem lnAt_mem {L : List (List Nat)} {i : Nat} (h : i < L.length) : lnAt L i ∈ L := by
  have : lnAt L i = L[i] := by unfold lnAt; rw [List.getD_eq_getElem?_getD, List.getElem?_eq_getElem h]; rfl
  rw [this]; exact List.getElem_mem h
theorem ROK.at {m : Nat} {L : List (List Nat)} (h : ROK m L) (i : Nat) : (lnAt L i).length ≤ 2 ∧ ∀ x ∈ lnAt L i, x < m := by
  by_cases hi : i < L.length
  · exact h _ (lnAt_mem hi)
  · have : lnAt L i = [] := by unfold lnAt; rw [List.getD_eq_getElem?_getD, List.getElem?_eq_none (by omega)]; rfl
    rw [this]; simp
theorem ROK.set {m : Nat} {L : List (List Nat)} (h : ROK m L) (i : Nat) {r : List Nat} (h1 : r.length ≤ 2) (h2 : ∀ x ∈ r, x < m) : ROK m (L.set i r) := fun s hs => by
  rcases List.mem_or_eq_of_mem_set hs with hs | rfl
  · exact h s hs
  · exact ⟨h1, h2⟩
theorem app_of {m : Nat} (hm : m ≤ 31) {L : List (List Nat)} (h : ROK m L) {i x : Nat} (hi : i < L.length) (hx : x < m) {k : Nat → Nat} {v : Nat} (hv : app (encL L) i x k = v) (h0 : v ≠ 0) :
    ROK m (L.set i (lnAt L i ++ [x])) ∧ v = k (encL (L.set i (lnAt L i ++ [x]))) := by
  have he := enc_set (lnAt L i ++ [x]) L i hi
  have hr := h.at i
  unfold app at hv
  rw [force_eq, row_enc hm L h i] at hv
  simp only [force_eq] at hv
  generalize lnAt L i = r at he hr hv ⊢
  match r, hr with
  | [], _ =>
    simp only [rowC, List.nil_append, Nat.zero_shiftLeft, Nat.add_zero] at he
    have e1 : Nat.beq (rowC []) 0 = true := rfl
    rw [e1, cond_true] at hv
    refine ⟨h.set i (by simp) (by simpa using hx), ?_⟩
    rw [List.nil_append, ← hv, he]; rfl
  | [y], hr =>
    have hy := hr.2 y (by simp)
    have e1 : Nat.beq (rowC [y]) 0 = false := rfl
    have e2 : Nat.ble (rowC [y]) 31 = true := by simp only [rowC]; exact Nat.ble_eq_true_of_le (by omega)
    rw [e1, e2, cond_false, cond_true] at hv
    refine ⟨h.set i (by simp) (by simp; omega), ?_⟩
    rw [← hv]
    congr 1
    simp only [rowC, List.singleton_append] at he ⊢
    have e3 : (x + 1) <<< (10 * i + 5) = 32 * ((x + 1) <<< (10 * i)) := by
      rw [Nat.shiftLeft_eq, Nat.shiftLeft_eq, Nat.pow_add, show (2 : Nat) ^ 5 = 32 by decide, ← Nat.mul_assoc, Nat.mul_comm]
    have e4 : (y + 1 + 32 * (x + 1)) <<< (10 * i) = (y + 1) <<< (10 * i) + 32 * ((x + 1) <<< (10 * i)) := by
      rw [Nat.shiftLeft_eq, Nat.shiftLeft_eq, Nat.shiftLeft_eq, Nat.add_mul, Nat.mul_assoc]
    show encL L + (x + 1) <<< (10 * i + 5) = _
    rw [e4] at he
    rw [e3]
    omega
  | [y, z], hr =>
    have e1 : Nat.beq (rowC [y, z]) 0 = false := by simp only [rowC]; rw [show y + 1 + 32 * (z + 1) = (y + 32 * (z + 1)) + 1 by omega]; rfl
    have e2 : Nat.ble (rowC [y, z]) 31 = false := by
      rw [Bool.eq_false_iff]; intro hc; have := Nat.le_of_ble_eq_true hc; simp only [rowC] at this; omega
    rw [e1, e2, cond_false, cond_false] at hv
    exact absurd hv.symm h0

theorem fline_of {m : Nat} (hm : m ≤ 31) {L : List (List Nat)} (h : ROK m L) (hL : L.length ≤ m) {a b : Nat} (ha : a < L.length) (hb : b < L.length) {k : Nat → Nat} {v : Nat} (hv : fline (encL L) a b k = v) (h0 : v ≠ 0) :
    ROK m (addLn L a b) ∧ v = k (encL (addLn L a b)) := by
  unfold fline at hv
  obtain ⟨h1, e1⟩ := app_of hm h ha (show b < m by omega) hv h0
  exact app_of hm h1 (i := b) (x := a) (by simpa using hb) (by omega) e1.symm h0
theorem addLn_len (L : List (List Nat)) (a b : Nat) : (addLn L a b).length = L.length := by simp [addLn]
theorem flineIf_of {m : Nat} (hm : m ≤ 31) {c : Prop} [Decidable c] {L : List (List Nat)} (h : ROK m L) (hL : L.length ≤ m) {a b : Nat} (ha : a < L.length) (hb : b < L.length) {bc : Bool} (hc : bc = true ↔ c) {k : Nat → Nat} {v : Nat}
    (hv : flineIf bc (encL L) a b k = v) (h0 : v ≠ 0) : ROK m (if c then addLn L a b else L) ∧ (if c then addLn L a b else L).length = L.length ∧ v = k (encL (if c then addLn L a b else L)) := by
  unfold flineIf at hv
  by_cases h1 : c
  · rw [hc.2 h1, cond_true] at hv
    rw [if_pos h1]
    have := fline_of hm h hL ha hb hv h0
    exact ⟨this.1, addLn_len _ _ _, this.2⟩
  · have : bc = false := by cases bc; rfl; exact absurd (hc.1 rfl) h1
    rw [this, cond_false] at hv
    rw [if_neg h1]
    exact ⟨h, rfl, hv.symm⟩
theorem putLines_len (n : Nat) (A B : List Nat) (i : Nat) : (putLines n A B i).length = 3 * n := by
  induction i with
  | zero => simp [putLines]
  | succ i ih =>
    rw [putLines]
    split <;> split <;> simp only [addLn_len, ih]
theorem ble_iff (i x : Nat) : Nat.ble (Nat.succ i) x = true ↔ i < x := ⟨Nat.le_of_ble_eq_true, Nat.ble_eq_true_of_le⟩
theorem flines_of {n : Nat} (hn : 3 * n ≤ 31) (A B : List Nat) (hA : A.length = 2 * n) (hB : B.length = 2 * n) (hAb : ∀ i, A.getD i 0 < 2 * n) (hBb : ∀ i, B.getD i 0 < 2 * n) {k : Nat → Nat} :
    ∀ (d i : Nat), i + d = 2 * n → ROK (3 * n) (putLines n A B i) → ∀ v, flines n (A.drop i) (B.drop i) i (encL (putLines n A B i)) k = v → v ≠ 0 →
      ROK (3 * n) (putLines n A B (2 * n)) ∧ v = k (encL (putLines n A B (2 * n))) := by
  intro d
  induction d with
  | zero =>
    intro i hi h v hv h0
    obtain rfl : i = 2 * n := by omega
    rw [List.drop_eq_nil_of_le (by omega), flines] at hv
    exact ⟨h, hv.symm⟩
  | succ d ih =>
    intro i hi h v hv h0
    have hiA : i < A.length := by omega
    have hiB : i < B.length := by omega
    have a1 := hAb i
    have b1 := hBb i
    have eA : A.getD i 0 = A[i] := by rw [List.getD_eq_getElem?_getD, List.getElem?_eq_getElem hiA]; rfl
    have eB : B.getD i 0 = B[i] := by rw [List.getD_eq_getElem?_getD, List.getElem?_eq_getElem hiB]; rfl
    rw [List.drop_eq_getElem_cons hiA, List.drop_eq_getElem_cons hiB, ← eA, ← eB, flines] at hv
    have hl := putLines_len n A B i
    obtain ⟨h1, l1, e1⟩ := flineIf_of hn h (by omega) (a := i) (b := A.getD i 0) (by omega) (by omega) (ble_iff i _) hv h0
    obtain ⟨h2, l2, e2⟩ := flineIf_of hn h1 (by omega) (a := n + i) (b := n + B.getD i 0) (by omega) (by omega) (ble_iff i _) e1.symm h0
    exact ih (i + 1) (by omega) h2 v e2.symm h0

theorem sub_shl (a b s : Nat) : (a - b) <<< s = a <<< s - b <<< s := by rw [Nat.shiftLeft_eq, Nat.shiftLeft_eq, Nat.shiftLeft_eq, Nat.sub_mul]
/-- A row is replaced by a smaller one. -/
theorem enc_less {L : List (List Nat)} {i : Nat} (hi : i < L.length) {r : List Nat} {c d : Nat} (hc : rowC (lnAt L i) = c) (hd : rowC r = d) (hle : d ≤ c) : Nat.sub (encL L) (Nat.shiftLeft (Nat.sub c d) (Nat.mul 10 i)) = encL (L.set i r) := by
  have he := enc_set r L i hi
  show encL L - (c - d) <<< (10 * i) = _
  rw [sub_shl]
  rw [hc, hd] at he
  have : d <<< (10 * i) ≤ c <<< (10 * i) := by rw [Nat.shiftLeft_eq, Nat.shiftLeft_eq]; exact Nat.mul_le_mul_right _ hle
  omega
theorem shr5 (r : Nat) : Nat.shiftRight r 5 = r / 32 := by show r >>> 5 = _; rw [Nat.shiftRight_eq_div_pow]
theorem rowC_rest {q : Nat} {rest : List Nat} (h1 : (q :: rest).length ≤ 2) (h2 : ∀ x ∈ q :: rest, x < 31) : ∃ r1, rowC (q :: rest) = r1 + 1 ∧ Nat.mod r1 32 = q ∧ Nat.shiftRight (r1 + 1) 5 = rowC rest ∧ rowC rest ≤ r1 + 1 := by
  have hq := h2 q (by simp)
  match rest, h1, h2 with
  | [], _, _ => exact ⟨q, rfl, Nat.mod_eq_of_lt (by omega), by rw [shr5]; simp only [rowC]; omega, by simp [rowC]⟩
  | [y], _, h2 =>
    have hy := h2 y (by simp)
    exact ⟨q + 32 * (y + 1), by simp only [rowC]; omega, by show (q + 32 * (y + 1)) % 32 = q; omega, by rw [shr5]; simp only [rowC]; omega, by simp only [rowC]; omega⟩
theorem fwalk_of {m : Nat} (hm : m ≤ 31) : ∀ (f : Nat) (L : List (List Nat)) (p : Nat) (k : Nat → Nat → Nat) (v : Nat), ROK m L → L.length = m → p < m → fwalk (f + 1) (encL L) p k = v → v ≠ 0 →
    ∃ q L', tlWalk f L p = some (q, L') ∧ ROK m L' ∧ L'.length = m ∧ q < m ∧ v = k q (encL L') := by
  intro f
  induction f with
  | zero =>
    intro L p k v h hl hp hv h0
    rw [fwalk, row_enc hm L h p] at hv
    have hr := h.at p
    cases hrow : lnAt L p with
    | nil =>
      rw [hrow] at hv
      exact ⟨p, L, by unfold tlWalk; rw [hrow], h, hl, hp, hv.symm⟩
    | cons q rest =>
      rw [hrow] at hv hr
      obtain ⟨r1, e1, _, _, _⟩ := rowC_rest hr.1 (fun x hx => by have := hr.2 x hx; omega)
      rw [e1] at hv
      simp only [force_eq, fwalk] at hv
      revert hv
      cases Nat.beq (Nat.mod (row ((encL L).sub (((Nat.succ r1).sub ((Nat.succ r1).shiftRight 5)).shiftLeft (Nat.mul 10 p))) (Nat.mod r1 32)) 32) (Nat.succ p) <;>
        cases Nat.beq (Nat.shiftRight (row ((encL L).sub (((Nat.succ r1).sub ((Nat.succ r1).shiftRight 5)).shiftLeft (Nat.mul 10 p))) (Nat.mod r1 32)) 5) (Nat.succ p) <;>
        (intro hv; exact absurd hv.symm h0)
  | succ f ih =>
    intro L p k v h hl hp hv h0
    rw [fwalk, row_enc hm L h p] at hv
    have hr := h.at p
    cases hrow : lnAt L p with
    | nil =>
      rw [hrow] at hv
      exact ⟨p, L, by unfold tlWalk; rw [hrow], h, hl, hp, hv.symm⟩
    | cons q rest =>
      rw [hrow] at hv hr
      have hq := hr.2 q (by simp)
      obtain ⟨r1, e1, e2, e3, e4⟩ := rowC_rest hr.1 (fun x hx => by have := hr.2 x hx; omega)
      rw [e1] at hv
      simp only [force_eq] at hv
      rw [e2, show Nat.shiftRight (Nat.succ r1) 5 = rowC rest from e3] at hv
      rw [enc_less (L := L) (i := p) (r := rest) (c := Nat.succ r1) (d := rowC rest) (by omega) (by rw [hrow]; exact e1) rfl e4] at hv
      have h1 : ROK m (L.set p rest) := h.set p (by have := hr.1; simp at this; omega) (fun x hx => hr.2 x (by simp [hx]))
      have l1 : (L.set p rest).length = m := by rw [List.length_set]; exact hl
      rw [row_enc hm _ h1 q] at hv
      unfold tlWalk
      rw [hrow]
      dsimp only
      rw [if_pos (by omega)]
      obtain ⟨L1, hL1⟩ : ∃ L1, L.set p rest = L1 := ⟨_, rfl⟩
      rw [hL1] at h1 l1 hv ⊢
      have hr1 := h1.at q
      cases hs : lnAt L1 q with
      | nil =>
        rw [hs] at hv
        have f1 : Nat.beq (Nat.mod (rowC []) 32) (Nat.succ p) = false := rfl
        have f2 : Nat.beq (Nat.shiftRight (rowC []) 5) (Nat.succ p) = false := rfl
        rw [f1, f2, cond_false, cond_false] at hv
        exact absurd hv.symm h0
      | cons x tl =>
        rw [hs] at hv hr1
        have hx := hr1.2 x (by simp)
        obtain ⟨s1, g1, g2, g3, g4⟩ := rowC_rest hr1.1 (fun x hx => by have := hr1.2 x hx; omega)
        have g5 : Nat.mod (rowC (x :: tl)) 32 = x + 1 := by
          rw [g1]; show (s1 + 1) % 32 = x + 1; have : s1 % 32 = x := g2; omega
        rw [g5, show Nat.shiftRight (rowC (x :: tl)) 5 = rowC tl by rw [g1]; exact g3] at hv
        by_cases hxp : x = p
        · have f1 : Nat.beq (x + 1) (Nat.succ p) = true := by rw [hxp]; exact Nat.beq_refl _
          rw [f1, cond_true, enc_less (L := L1) (i := q) (r := tl) (by omega) (by rw [hs]) rfl (by rw [g1]; exact g4)] at hv
          have hfd : find p (x :: tl) 0 = some 0 := by rw [find, if_pos hxp]
          rw [hfd]
          have h2 : ROK m (L1.set q tl) := h1.set q (by have := hr1.1; simp at this; omega) (fun y hy => hr1.2 y (by simp [hy]))
          exact ih (L1.set q tl) q k v h2 (by rw [List.length_set]; exact l1) hq hv h0
        · have f1 : Nat.beq (x + 1) (Nat.succ p) = false := by rw [Bool.eq_false_iff]; intro hc; have := Nat.eq_of_beq_eq_true hc; omega
          rw [f1, cond_false] at hv
          have hlt := hr1.1
          match tl, hr1, hv, g1, hs, hlt with
          | [], _, hv, _, _, _ =>
            have f2 : Nat.beq (rowC []) (Nat.succ p) = false := rfl
            rw [f2, cond_false] at hv
            exact absurd hv.symm h0
          | [y], hr1, hv, g1, hs, _ =>
            by_cases hyp : y = p
            · have f2 : Nat.beq (rowC [y]) (Nat.succ p) = true := by rw [hyp]; exact Nat.beq_refl _
              rw [f2, cond_true, enc_less (L := L1) (i := q) (r := [x]) (d := x + 1) (by omega) (by rw [hs]) rfl (by simp only [rowC]; omega)] at hv
              have hfd : find p [x, y] 0 = some 1 := by rw [find, if_neg hxp, find, if_pos hyp]
              rw [hfd]
              have h2 : ROK m (L1.set q [x]) := h1.set q (by simp) (fun z hz => by simp at hz; rw [hz]; exact hx)
              exact ih (L1.set q [x]) q k v h2 (by rw [List.length_set]; exact l1) hq hv h0
            · have f2 : Nat.beq (rowC [y]) (Nat.succ p) = false := by rw [Bool.eq_false_iff]; intro hc; have := Nat.eq_of_beq_eq_true hc; simp only [rowC] at this; omega
              rw [f2, cond_false] at hv
              exact absurd hv.symm h0
          | _ :: _ :: _, _, _, _, _, hlt => simp at hlt

theorem floops_of {m : Nat} (hm : m ≤ 31) {k : Nat → Nat} : ∀ (d p : Nat) (L : List (List Nat)) (c v : Nat), ROK m L → L.length = m → p + d ≤ m → floops d p (encL L) c k = v → v ≠ 0 → ∃ C, tlLoops d L p c = some C ∧ C ≤ c + d ∧ v = k C := by
  intro d
  induction d with
  | zero => intro p L c v h hl hp hv h0; exact ⟨c, rfl, by omega, hv.symm⟩
  | succ d ih =>
    intro p L c v h hl hp hv h0
    rw [floops, row_enc hm L h p] at hv
    unfold tlLoops
    have hr := h.at p
    cases hrow : lnAt L p with
    | nil =>
      rw [hrow] at hv
      obtain ⟨C, h1, h2, h3⟩ := ih (p + 1) L c v h hl (by omega) hv h0
      exact ⟨C, h1, by omega, h3⟩
    | cons q rest =>
      rw [hrow] at hv hr
      obtain ⟨r1, e1, _, _, _⟩ := rowC_rest hr.1 (fun x hx => by have := hr.2 x hx; omega)
      rw [e1] at hv
      dsimp only at hv
      obtain ⟨q', L', g1, g2, g3, g4, g5⟩ := fwalk_of hm 40 L p _ v h hl (by omega) hv h0
      rw [g1]
      obtain ⟨C, h1, h2, h3⟩ := ih (p + 1) L' (c + 1) v g2 g3 (by omega) g5.symm h0
      exact ⟨C, h1, by omega, h3⟩

def encD : List Nat → Nat
  | [] => 0
  | x :: l => x + 16 * encD l
theorem shr4 (N i : Nat) : Nat.shiftRight N (Nat.mul 4 (i + 1)) = Nat.shiftRight (N / 16) (Nat.mul 4 i) := by
  show N >>> (4 * (i + 1)) = (N / 16) >>> (4 * i)
  rw [Nat.shiftRight_eq_div_pow, Nat.shiftRight_eq_div_pow, Nat.div_div_eq_div_mul]
  congr 1
  rw [show (16 : Nat) = 2 ^ 4 by decide, ← Nat.pow_add]; congr 1; omega
theorem shl4 (x i : Nat) : x <<< (4 * (i + 1)) = 16 * (x <<< (4 * i)) := by
  rw [Nat.shiftLeft_eq, Nat.shiftLeft_eq, show 4 * (i + 1) = 4 * i + 4 by omega, Nat.pow_add, show (2 : Nat) ^ 4 = 16 by decide, ← Nat.mul_assoc, Nat.mul_comm]
theorem dig_enc : ∀ (l : List Nat), (∀ x ∈ l, x < 16) → ∀ i, dig (encD l) i = l.getD i 0
  | [], _, i => by
    show (0 >>> (4 * i)) % 16 = _
    rw [Nat.zero_shiftRight]; simp
  | r :: l, h, 0 => by
    have := h r (by simp)
    show ((r + 16 * encD l) >>> (4 * 0)) % 16 = r
    rw [Nat.mul_zero, Nat.shiftRight_zero]; omega
  | r :: l, h, i + 1 => by
    have := h r (by simp)
    have e := dig_enc l (fun r hr => h r (by simp [hr])) i
    show Nat.mod (Nat.shiftRight (r + 16 * encD l) (Nat.mul 4 (i + 1))) 16 = l.getD i 0
    rw [shr4, show (r + 16 * encD l) / 16 = encD l by omega]; exact e
theorem encD_set (x : Nat) : ∀ (l : List Nat) (i : Nat), i < l.length → encD (l.set i x) + (l.getD i 0) <<< (4 * i) = encD l + x <<< (4 * i)
  | s :: l, 0, _ => by
    show x + 16 * encD l + s <<< (4 * 0) = s + 16 * encD l + x <<< (4 * 0)
    simp only [Nat.mul_zero, Nat.shiftLeft_zero]; omega
  | s :: l, i + 1, h => by
    have := encD_set x l i (by simpa using h)
    rw [List.set_cons_succ, shl4, shl4]
    show s + 16 * encD (l.set i x) + 16 * (l.getD i 0) <<< (4 * i) = s + 16 * encD l + _
    omega
def OOK (l : List Nat) : Prop := ∀ x ∈ l, x < 16
theorem OOK.set {l : List Nat} (h : OOK l) (i : Nat) {x : Nat} (hx : x < 16) : OOK (l.set i x) := fun s hs => by
  rcases List.mem_or_eq_of_mem_set hs with hs | rfl
  · exact h s hs
  · exact hx
theorem setD_of {l : List Nat} (h : OOK l) {i : Nat} (hi : i < l.length) (x : Nat) : setD (encD l) i x = encD (l.set i x) := by
  have he := encD_set x l i hi
  unfold setD
  rw [dig_enc l h i]
  show encD l + x <<< (4 * i) - (l.getD i 0) <<< (4 * i) = _
  omega
theorem fpnt_eq (n p : Nat) : fpnt n p = pnt n p := by
  unfold fpnt pnt
  by_cases h : n ≤ p
  · rw [if_pos h, Nat.ble_eq_true_of_le h]; rfl
  · rw [if_neg h]
    have : Nat.ble n p = false := by rw [Bool.eq_false_iff]; intro hc; exact h (Nat.le_of_ble_eq_true hc)
    rw [this]; rfl
theorem pnt_lt {n p : Nat} (h : p < 3 * n) : pnt n p < 2 * n := by unfold pnt; split <;> omega
theorem fends_of {n : Nat} (hn : 3 * n ≤ 31) (hn8 : 2 * n ≤ 16) {k : Nat → Nat → Nat} : ∀ (d p : Nat) (L : List (List Nat)) (out : List Nat) (v : Nat), ROK (3 * n) L → L.length = 3 * n → OOK out → out.length = 2 * n → p + d ≤ 3 * n →
    fends n d p (encL L) (encD out) k = v → v ≠ 0 → ∃ O L', putEnds n d L p out = some (O, L') ∧ ROK (3 * n) L' ∧ L'.length = 3 * n ∧ OOK O ∧ O.length = 2 * n ∧ v = k (encL L') (encD O) := by
  intro d
  induction d with
  | zero => intro p L out v h hl ho hol hp hv h0; exact ⟨out, L, rfl, h, hl, ho, hol, hv.symm⟩
  | succ d ih =>
    intro p L out v h hl ho hol hp hv h0
    rw [fends] at hv
    unfold putEnds
    by_cases hc : p < n ∨ 2 * n ≤ p
    · have hb : or (Nat.ble (Nat.succ p) n) (Nat.ble (Nat.mul 2 n) p) = true := by
        rcases hc with hc | hc
        · rw [Nat.ble_eq_true_of_le hc]; rfl
        · rw [Nat.ble_eq_true_of_le (show Nat.mul 2 n ≤ p from hc), Bool.or_true]
      rw [hb, cond_true, row_enc hn L h p] at hv
      rw [if_pos hc]
      have hr := h.at p
      cases hrow : lnAt L p with
      | nil =>
        rw [hrow] at hv
        exact ih (p + 1) L out v h hl ho hol (by omega) hv h0
      | cons q rest =>
        rw [hrow] at hv hr
        obtain ⟨r1, e1, _, _, _⟩ := rowC_rest hr.1 (fun x hx => by have := hr.2 x hx; omega)
        rw [e1] at hv
        dsimp only at hv
        obtain ⟨q', L', g1, g2, g3, g4, g5⟩ := fwalk_of hn 40 L p _ v h hl (by omega) hv h0
        rw [g1]
        have p1 := pnt_lt (n := n) (p := p) (by omega)
        have p2 := pnt_lt (n := n) (p := q') (by omega)
        have o1 := ho.set (pnt n p) (x := pnt n q') (by omega)
        have o2 := o1.set (pnt n q') (x := pnt n p) (by omega)
        rw [force_eq, fpnt_eq, fpnt_eq, setD_of ho (by omega), setD_of o1 (by rw [List.length_set]; omega)] at g5
        exact ih (p + 1) L' _ v g2 g3 o2 (by rw [List.length_set, List.length_set]; exact hol) (by omega) g5.symm h0
    · have hb : or (Nat.ble (Nat.succ p) n) (Nat.ble (Nat.mul 2 n) p) = false := by
        have h1 : Nat.ble (Nat.succ p) n = false := by rw [Bool.eq_false_iff]; intro hx; have := Nat.le_of_ble_eq_true hx; omega
        have h2 : Nat.ble (Nat.mul 2 n) p = false := by rw [Bool.eq_false_iff]; intro hx; have : 2 * n ≤ p := Nat.le_of_ble_eq_true hx; omega
        rw [h1, h2]; rfl
      rw [hb, cond_false] at hv
      rw [if_neg hc]
      exact ih (p + 1) L out v h hl ho hol (by omega) hv h0
theorem encL_empty : ∀ n, encL (List.replicate n []) = 0
  | 0 => rfl
  | n + 1 => by rw [List.replicate_succ]; show rowC [] + 1024 * encL _ = 0; rw [encL_empty n]; rfl
theorem encD_zero : ∀ n, encD (List.replicate n 0) = 0
  | 0 => rfl
  | n + 1 => by rw [List.replicate_succ]; show 0 + 16 * encD _ = 0; rw [encD_zero n]
/-- What fput finds is what putL finds. -/
theorem fput_of {n : Nat} (hn : 3 * n ≤ 31) (hn8 : 2 * n ≤ 16) {A B : List Nat} (hA : A.length = 2 * n) (hB : B.length = 2 * n) (hAb : ∀ i, A.getD i 0 < 2 * n) (hBb : ∀ i, B.getD i 0 < 2 * n) {v : Nat} (hv : fput n A B = v) (h0 : v ≠ 0) :
    ∃ O C, putL n A B = some (O, C) ∧ (∀ j, (lnAt (putLines n A B (2 * n)) j).length ≤ 2) ∧ OOK O ∧ O.length = 2 * n ∧ C ≤ 3 * n ∧ v = 64 * encD O + C + 1 := by
  unfold fput at hv
  have z1 : encL (putLines n A B 0) = 0 := encL_empty _
  have z2 : ROK (3 * n) (putLines n A B 0) := fun r hr => by
    obtain ⟨_, rfl⟩ := List.mem_replicate.1 hr
    simp
  have h1 := flines_of hn A B hA hB hAb hBb (k := fun N => fends n (Nat.mul 3 n) 0 N 0 fun M O => floops (Nat.mul 3 n) 0 M 0 fun c => Nat.succ (Nat.add (Nat.mul 64 O) c)) (2 * n) 0 (by omega) z2 v
  rw [z1, List.drop_zero, List.drop_zero] at h1
  obtain ⟨k1, k2⟩ := h1 hv h0
  have h2 := fends_of (n := n) hn hn8 (k := fun M O => floops (Nat.mul 3 n) 0 M 0 fun c => Nat.succ (Nat.add (Nat.mul 64 O) c)) (3 * n) 0 (putLines n A B (2 * n)) (List.replicate (2 * n) 0) v k1 (putLines_len _ _ _ _) (fun x hx => by
    obtain ⟨_, rfl⟩ := List.mem_replicate.1 hx
    omega) (by simp) (by omega)
  rw [encD_zero] at h2
  obtain ⟨O, L', g1, g2, g3, g4, g5, g6⟩ := h2 k2.symm h0
  obtain ⟨C, c1, c2, c3⟩ := floops_of hn (3 * n) 0 L' 0 v g2 g3 (by omega) g6.symm h0
  refine ⟨O, C, ?_, fun j => (k1.at j).1, g4, g5, by omega, c3⟩
  unfold putL
  rw [g1]
  dsimp only
  rw [c1]
theorem encD_inj : ∀ {l m : List Nat}, OOK l → OOK m → l.length = m.length → encD l = encD m → l = m
  | [], [], _, _, _, _ => rfl
  | x :: l, y :: m, h1, h2, h3, h4 => by
    have a := h1 x (by simp)
    have b := h2 y (by simp)
    simp only [encD] at h4
    have := encD_inj (l := l) (m := m) (fun z hz => h1 z (by simp [hz])) (fun z hz => h2 z (by simp [hz])) (by simpa using h3) (by omega)
    rw [this, show x = y by omega]

end Go.TL

namespace Go.TL
def dg (N i : Nat) : Nat := Nat.mod (Nat.shiftRight N (Nat.mul 12 i)) 4096
/-- One row: a on top of all b. P: what comes out (4 * number + loops), C: the codes of the matchings. -/
def rowOK (n : Nat) (A : List Nat) (P C : Nat) : List (List Nat) → Nat → Bool
  | [], _ => true
  | b :: bs, j => bif Nat.beq (fput n A b) (Nat.succ (Nat.add (Nat.mul 64 (Nat.mod (Nat.shiftRight C (Nat.mul 48 (Nat.shiftRight (dg P j) 2))) 281474976710656)) (Nat.mod (dg P j) 4))) then rowOK n A P C bs (Nat.succ j) else false
def rowsOK (n C : Nat) (S : List (List Nat)) : List (List Nat) → List Nat → Bool
  | [], _ => true
  | _ :: _, [] => false
  | a :: As, P :: Ps => bif rowOK n a P C S 0 then rowsOK n C S As Ps else false
def mS2 : List (List Nat) := [[2, 3, 0, 1], [1, 0, 3, 2]]
def mC2 : Nat := 2522297266304192562
def mP2 : List Nat := [16384, 20484]
end Go.TL

namespace Go.TL

/-- A product with loops on 0 .. N - 1, whose elements are products of generators 1 .. g; j is par j times gn j. -/
structure MulOK (N g : Nat) (par gn : Nat → Nat) (P : Nat → Nat → Nat × Nat) : Prop where
  gN : g < N
  lt : ∀ i j, i < N → j < N → (P i j).1 < N
  one : ∀ j, j < N → P 0 j = (j, 0)
  eno : ∀ i, i < N → P i 0 = (i, 0)
  parlt : ∀ j, 1 ≤ j → j < N → par j < j
  gn1 : ∀ j, 1 ≤ j → j < N → 1 ≤ gn j ∧ gn j ≤ g
  gen : ∀ j, 1 ≤ j → j < N → P (par j) (gn j) = (j, 0)
  right : ∀ i j, i < N → 1 ≤ j → j < N → (P i j).1 = (P (P i (par j)).1 (gn j)).1 ∧ (P i j).2 = (P i (par j)).2 + (P (P i (par j)).1 (gn j)).2
  comm : ∀ i a b, i < N → 1 ≤ a → a ≤ g → 1 ≤ b → b ≤ g → (P (P a i).1 b).1 = (P a (P i b).1).1 ∧ (P a i).2 + (P (P a i).1 b).2 = (P i b).2 + (P a (P i b).1).2

/-- The product of three from the left is that from the right. -/
def Asc (P : Nat → Nat → Nat × Nat) (i j k : Nat) : Prop := (P (P i j).1 k).1 = (P i (P j k).1).1 ∧ (P i j).2 + (P (P i j).1 k).2 = (P j k).2 + (P i (P j k).1).2

section
variable {N g : Nat} {par gn : Nat → Nat} {P : Nat → Nat → Nat × Nat} (H : MulOK N g par gn P)
include H

theorem assoc_of {i : Nat} (hi : i < N) (hg : ∀ y h, y < N → 1 ≤ h → h ≤ g → Asc P i y h) : ∀ k, k < N → ∀ j, j < N → Asc P i j k := by
  intro k
  induction k using Nat.strongRecOn with
  | ind k ih =>
    intro hk j hj
    rcases Nat.eq_zero_or_pos k with rfl | h1
    · unfold Asc
      rw [H.eno _ (H.lt i j hi hj), H.eno j hj]
      exact ⟨rfl, by simp⟩
    · have hp := H.parlt k h1 hk
      obtain ⟨q1, q2⟩ := H.gn1 k h1 hk
      obtain ⟨a1, a2⟩ := ih (par k) hp (by omega) j hj
      obtain ⟨b1, b2⟩ := H.right (P i j).1 k (H.lt i j hi hj) h1 hk
      obtain ⟨c1, c2⟩ := H.right j k hj h1 hk
      obtain ⟨d1, d2⟩ := hg (P j (par k)).1 (gn k) (H.lt _ _ hj (by omega)) q1 q2
      unfold Asc
      rw [c1, c2, b1, b2, a1]
      exact ⟨d1, by omega⟩
theorem gen_assoc : ∀ i, i < N → ∀ y h, y < N → 1 ≤ h → h ≤ g → Asc P i y h := by
  intro i
  induction i using Nat.strongRecOn with
  | ind i ih =>
    intro hi y h hy h1 h2
    have hgN := H.gN
    rcases Nat.eq_zero_or_pos i with rfl | hpos
    · unfold Asc
      rw [H.one y hy, H.one _ (H.lt y h hy (by omega))]
      exact ⟨rfl, by simp⟩
    · have hp := H.parlt i hpos hi
      obtain ⟨q1, q2⟩ := H.gn1 i hpos hi
      have G := ih (par i) hp (by omega)
      have M := fun y hy => assoc_of H (i := par i) (by omega) G y hy (gn i) (by omega)
      obtain ⟨m1, m2⟩ := M y hy
      obtain ⟨n1, n2⟩ := M (P y h).1 (H.lt _ _ hy (by omega))
      rw [H.gen i hpos hi] at m1 m2 n1 n2
      simp only [Nat.zero_add] at m1 m2 n1 n2
      obtain ⟨f1, f2⟩ := H.comm y (gn i) h hy q1 q2 h1 h2
      obtain ⟨e1, e2⟩ := G (P (gn i) y).1 h (H.lt _ _ (by omega) hy) h1 h2
      unfold Asc
      rw [m1, n1, m2, n2, e1, f1]
      rw [f1] at e2
      exact ⟨rfl, by omega⟩
theorem assoc {i j k : Nat} (hi : i < N) (hj : j < N) (hk : k < N) : Asc P i j k := assoc_of H hi (gen_assoc H i hi) k hk j hj

/-- A trace that does not see on which side a generator stands. -/
theorem trace {T : Nat → Nat} (ht : ∀ i h, i < N → 1 ≤ h → h ≤ g → T (P i h).1 + (P i h).2 = T (P h i).1 + (P h i).2) : ∀ j, j < N → ∀ i, i < N → T (P i j).1 + (P i j).2 = T (P j i).1 + (P j i).2 := by
  intro j
  have hgN := H.gN
  induction j using Nat.strongRecOn with
  | ind j ih =>
    intro hj i hi
    rcases Nat.eq_zero_or_pos j with rfl | hpos
    · rw [H.one i hi, H.eno i hi]
    · have hp := H.parlt j hpos hj
      obtain ⟨q1, q2⟩ := H.gn1 j hpos hj
      have hgl : gn j < N := by omega
      obtain ⟨r1, r2⟩ := H.right i j hi hpos hj
      have t1 := ht (P i (par j)).1 (gn j) (H.lt _ _ hi (by omega)) q1 q2
      obtain ⟨a1, a2⟩ := assoc H (i := gn j) (j := i) (k := par j) hgl hi (by omega)
      have t2 := ih (par j) hp (by omega) (P (gn j) i).1 (H.lt _ _ hgl hi)
      obtain ⟨b1, b2⟩ := assoc H (i := par j) (j := gn j) (k := i) (by omega) hgl hi
      rw [H.gen j hpos hj] at b1 b2
      rw [r1, r2]
      rw [a1] at t2
      simp only [Nat.zero_add] at b1 b2
      rw [← b1] at t2
      omega

end
end Go.TL

namespace Go.TL

def pv (T : List Nat) (i j : Nat) : Nat := dg (T.getD i 0) j
def PT (T : List Nat) (i j : Nat) : Nat × Nat := (pv T i j / 4, pv T i j % 4)
/-- f holds of all below n. -/
def allB (f : Nat → Bool) : Nat → Bool
  | 0 => true
  | n + 1 => bif f n then allB f n else false
theorem allB_of {f : Nat → Bool} : ∀ {n : Nat}, allB f n = true → ∀ i, i < n → f i = true
  | n + 1, h, i, hi => by
    unfold allB at h
    cases hf : f n with
    | false => rw [hf] at h; cases h
    | true =>
      rw [hf, cond_true] at h
      rcases Nat.lt_or_ge i n with h1 | h1
      · exact allB_of h i h1
      · rwa [show i = n by omega]
end Go.TL

namespace Go.Proofs.Ytckopilciekfbaa
open Go.RowKit Go.Sl

theorem info_int : (Try.prog.info? 3).map (fun i => (i.zero, i.size, i.bytes)) = some (some (.int .i64 0), 1, 8) := by kernel_rfl

/-- Element k of a list of numbers. -/
def nth (xs : List Int) (k : Nat) : Int := xs.getD k 0
theorem nth_lt {xs : List Int} {k : Nat} (h : k < xs.length) : nth xs k = xs[k] := by simp [nth, h]

/-- The slice reads as this list of numbers. -/
def Ints (w : World) (v : Value) (xs : List Int) : Prop := Sl w v 1 (xs.map (Value.int .i64))
/-- The slice is the call's own, and reads as this list of numbers. -/
def OwnI (w : World) (B : Nat) (v : Value) (xs : List Int) : Prop := Own w B 3 1 v (xs.map (Value.int .i64))

section
variable {w w' : World} {v : Value} {xs : List Int} {B : Nat}
theorem Ints.isSl (h : Ints w v xs) : IsSl v := h.1
theorem Ints.len (h : Ints w v xs) : vlen v = xs.length := by have := h.2.1; simp at this; omega
theorem Ints.cell (h : Ints w v xs) {k : Nat} (hk : k < xs.length) : w.cell? (vat v k) = some (.int .i64 (nth xs k)) := by
  have := Sl.cell h (j := k) (by simpa using hk)
  rw [this, nth_lt hk]; simp
theorem Ints.below (h : Ints w v xs) (hb : Below w.heap.size w w') : Ints w' v xs := Sl.below h hb
theorem Ints.alloc (h : Ints w v xs) (o : Obj) : Ints (w.alloc o) v xs := Sl.alloc h o
theorem ints_nil (w : World) : Ints w (.slice none 0 0) [] := sl_nil w 1
theorem ownI_nil (w : World) (B : Nat) : OwnI w B (.slice none 0 0) [] := own_nil w B _ 1
theorem OwnI.ints (h : OwnI w B v xs) : Ints w v xs := Own.sl h
theorem OwnI.lt (h : OwnI w B v xs) : ∀ k, row v = some k → B ≤ k ∧ k < w.heap.size := Own.lt h
theorem OwnI.isSl (h : OwnI w B v xs) : IsSl v := h.1
theorem OwnI.len (h : OwnI w B v xs) : vlen v = xs.length := h.ints.len
theorem OwnI.cell (h : OwnI w B v xs) {k : Nat} (hk : k < xs.length) : w.cell? (vat v k) = some (.int .i64 (nth xs k)) := h.ints.cell hk
theorem OwnI.frozen (h : OwnI w B v xs) {k : Nat} (hk : k < xs.length) : w.frozen? (vat v k) = false := Own.frozen h (by simpa using hk)
theorem OwnI.ge (h : OwnI w B v xs) {k : Nat} (hk : k < xs.length) : B ≤ (vat v k).block := Own.ge h (by simpa using hk)
theorem OwnI.set (h : OwnI w B v xs) {k : Nat} (hk : k < xs.length) (x : Int) : OwnI (w.setCell (vat v k) (.int .i64 x)) B v (xs.set k x) := by
  have := Own.set h (j := k) (by simpa using hk) (.int .i64 x)
  unfold OwnI
  rwa [List.map_set]
theorem OwnI.alloc (h : OwnI w B v xs) (o : Obj) : OwnI (w.alloc o) B v xs := Own.alloc h o
theorem OwnI.low (h : OwnI w B v xs) {B' : Nat} (hB : B' ≤ B) : OwnI w B' v xs := Own.low h hB
theorem OwnI.below (h : OwnI w B v xs) (hb : Below w.heap.size w w') : OwnI w' B v xs := Own.below h hb
theorem OwnI.grown (h : OwnI w B v xs) {r : Option Nat} (hg : w.grownBy w' r) (hr : ∀ k, row v = some k → r ≠ some k) : OwnI w' B v xs := Own.grown h hg hr
theorem Ints.grown (h : Ints w v xs) {r : Option Nat} (hg : w.grownBy w' r) (hr : ∀ k, r = some k → vblk v ≠ k) : Ints w' v xs := Sl.grown h hg hr
theorem Ints.cut (h : Ints w v xs) {l r m : Nat} (h1 : l ≤ r) (h2 : r ≤ xs.length) (h3 : r ≤ m) (h4 : m ≤ vcap v) : Ints w (vcut v l r m 1) ((xs.drop l).take (r - l)) := by
  have := Sl.cut h (l := l) (r := r) (m := m) h1 (by rw [h.len]; exact h2) h3 h4
  unfold Ints
  rw [List.map_take, List.map_drop]
  simpa using this
theorem Ints.cap (h : Ints w v xs) : xs.length ≤ vcap v := by rw [← h.len]; exact h.1.le
theorem OwnI.setOther (h : OwnI w B v xs) {p : Addr} (hp : ∀ k, row v = some k → p.block ≠ k) (u : Value) : OwnI (w.setCell p u) B v xs := Own.setOther h hp u
theorem Ints.setOther (h : Ints w v xs) {p : Addr} (hp : p.block ≠ vblk v) (u : Value) : Ints (w.setCell p u) v xs := Sl.setOther h hp u
end

/-- A list that is written from its head on: the first k numbers are there, the others are still 0. -/
def fill (f : List Int) (k : Nat) : List Int := f.take k ++ List.replicate (f.length - k) 0
theorem fill_zero (f : List Int) : fill f 0 = List.replicate f.length 0 := by simp [fill]
theorem fill_all (f : List Int) : fill f f.length = f := by simp [fill]
theorem fill_length (f : List Int) (k : Nat) (h : k ≤ f.length) : (fill f k).length = f.length := by simp [fill]; omega
theorem fill_set (f : List Int) (k : Nat) (h : k < f.length) : (fill f k).set k (nth f k) = fill f (k + 1) := by
  rw [nth_lt h]
  unfold fill
  rw [List.set_append_right _ _ (by simp; omega)]
  have e : f.length - k = (f.length - (k + 1)) + 1 := by omega
  rw [show k - (f.take k).length = 0 from by simp; omega, e, List.replicate_succ, List.set_cons_zero]
  rw [List.take_succ_eq_append_getElem h, List.append_assoc]; rfl

theorem ret_int' {k : IntKind} {a b : Int} (h : a = b) : Ending.returned (.int k a) = .returned (.int k b) := by rw [h]

/-- append of one number. -/
theorem wpList_push {w : World} {ops : Array Oper} {rest : List Oper} {o : Oper} {a : Act} {Q : Exit → Act → World → Prop} (hgd : o.guard = none) (s x : Operand)
    (ho : o.op = .call { callee := .builtin .append, args := #[s, x], argTypes := #[22, 22] })
    {B : Nat} {v : Value} {xs : List Int} {z : Int} (hs : a.eval s = v) (hx : a.eval x = .slice (some ⟨w.heap.size, 0, none⟩) 1 1) (hown : OwnI w B v xs) (hB : B ≤ w.heap.size) (hlen : xs.length ≤ 1000000000000)
    (h : ∀ v' w', OwnI w' B v' (xs ++ [z]) → w.grownBy w' (row v) → (∀ k, row v' = some k → row v = some k ∨ w.heap.size ≤ k) → wpList Try.prog ops Q rest (a.put o.dst v') w') :
    wpList Try.prog ops Q (o :: rest) a (w.alloc (.cells #[.int .i64 z] 3)) := by
  obtain ⟨i, hi, hz0, hz1, hz2⟩ := info_parts info_int
  have hl := hown.len
  refine wpList_append_sl hgd s x _ ho B 3 i (.int .i64 0) 1 8 Try.underlying22 hi hz0 hz1 hz2 rfl (by decide) hs hx (Own.alloc hown _) (sl_one w (.int .i64 z) 3)
    (by intro u hu; simp at hu; subst hu; rfl) (by simp only [vlen_mk, hl, maxLen]; omega) (by simp only [vlen_mk, hl]; omega) (by simp; omega) ?_
  intro v' w' h1 h2 h3
  refine h v' w' (by unfold OwnI; simpa using h1) ?_ ?_
  · exact ⟨h2.os, h2.tape, h2.output, by have := h2.size; simp at this; omega, fun k hk hr => (h2.block k (by simp; omega) hr).trans (Below.heap_alloc w _ k hk)⟩
  · intro k hk; rcases h3 k hk with h | h
    · exact .inl h
    · exact .inr (by simp at h; omega)

/-- append of a whole slice of numbers. -/
theorem wpList_concat {w : World} {ops : Array Oper} {rest : List Oper} {o : Oper} {a : Act} {Q : Exit → Act → World → Prop} (hgd : o.guard = none) (s x : Operand)
    (ho : o.op = .call { callee := .builtin .append, args := #[s, x], argTypes := #[22, 22] })
    {B : Nat} {v y : Value} {xs ys : List Int} (hs : a.eval s = v) (hx : a.eval x = y) (hown : OwnI w B v xs) (hy : Ints w y ys) (hB : B ≤ w.heap.size) (hlen : xs.length + ys.length ≤ 1000000000000)
    (h : ∀ v' w', OwnI w' B v' (xs ++ ys) → w.grownBy w' (row v) → (∀ k, row v' = some k → row v = some k ∨ w.heap.size ≤ k) → wpList Try.prog ops Q rest (a.put o.dst v') w') :
    wpList Try.prog ops Q (o :: rest) a w := by
  obtain ⟨i, hi, hz0, hz1, hz2⟩ := info_parts info_int
  have hl := hown.len
  have hl' := hy.len
  refine wpList_append_sl hgd s x _ ho B 3 i (.int .i64 0) 1 8 Try.underlying22 hi hz0 hz1 hz2 rfl (by decide) hs hx hown hy
    (by intro u hu; obtain ⟨_, _, rfl⟩ := List.mem_map.1 hu; rfl) (by rw [hl, hl']; simp only [maxLen]; omega) (by rw [hl, hl']; omega) hB ?_
  intro v' w' h1 h2 h3
  exact h v' w' (by unfold OwnI; simpa using h1) h2 h3

theorem ownI_build (w : World) (B : Nat) (xs : List Int) (h : B ≤ w.heap.size) (hl : xs.length ≤ 1000000) : OwnI (w.alloc (.cells (xs.map (Value.int .i64)).toArray 3)) B (.slice (some ⟨w.heap.size, 0, none⟩) xs.length xs.length) xs :=
  ⟨isSl_mk _ _ _ _ (Nat.le_refl _) (by unfold maxLen; omega), by simp, fun _ => ⟨h, rfl, _, heap_alloc_new w _, by simp, List.take_of_length_le (by simp)⟩⟩
theorem ownI_lit {w : World} {B b n : Nat} {cs : Array Value} (xs : List Int) (hb : b = w.heap.size) (hn : n = xs.length) (hc : cs = (xs.map (Value.int .i64)).toArray) (hl : xs.length ≤ 1000000) (hB : B ≤ w.heap.size) :
    OwnI (w.alloc (.cells cs 3)) B (.slice (some ⟨b, 0, none⟩) n n) xs := by
  subst hb hn hc; exact ownI_build w B xs hB hl
theorem ints_lit {w : World} {b n : Nat} {cs : Array Value} (xs : List Int) (hb : b = w.heap.size) (hn : n = xs.length) (hc : cs = (xs.map (Value.int .i64)).toArray) (hl : xs.length ≤ 1000000) :
    Ints (w.alloc (.cells cs 3)) (.slice (some ⟨b, 0, none⟩) n n) xs := (ownI_lit (B := 0) xs hb hn hc hl (Nat.zero_le _)).ints

/-- make of a slice of numbers. -/
theorem wpList_make {w : World} {ops : Array Oper} {rest : List Oper} {o : Oper} {a : Act} {Q : Exit → Act → World → Prop} (hgd : o.guard = none) (l c : Operand) (ho : o.op = Op.makeSlice 22 l c)
    (L C : Int) (n : Nat) (hl : a.eval l = .int .i64 L) (hc : a.eval c = .int .i64 C) (hL : L = (n : Int)) (hC : C = (n : Int)) (hm : n ≤ 1000000000000)
    (h : ∀ v' w', OwnI w' w.heap.size v' (List.replicate n 0) → w.grownBy w' none → vlen v' = n → w'.heap.size = w.heap.size + 1 → wpList Try.prog ops Q rest (a.put o.dst v') w') : wpList Try.prog ops Q (o :: rest) a w := by
  obtain ⟨i, hi, hz0, hz1, hz2⟩ := info_parts info_int
  refine wpList_make_sl hgd l c _ ho 3 i (.int .i64 0) 8 Try.underlying22 hi hz0 hz1 hz2 rfl L C n hl hc hL hC (by omega) (by simp only [maxLen]; omega) ?_
  intro v' w' h1 h2 h3 h4
  exact h v' w' (by unfold OwnI; simpa using h1) h2 h3 h4

theorem Below_of_grown {w0 w w' : World} {B : Nat} {r : Option Nat} (h : Below B w0 w) (hg : w.grownBy w' r) (hB : B ≤ w.heap.size) (hr : ∀ k, r = some k → B ≤ k) : Below B w0 w' := h.grown hg hB hr

theorem info_slice : (Try.prog.info? 22).map (fun i => (i.zero, i.size, i.bytes)) = some (some (.slice none 0 0), 1, 24) := by kernel_rfl
/-- '[][]int{a, b}'. -/
theorem wpList_rows2 {w : World} {ops : Array Oper} {rest : List Oper} {o : Oper} {a : Act} {Q : Exit → Act → World → Prop} (hgd : o.guard = none) (x y : Operand) (ho : o.op = Op.buildSlice 43 2 #[(0, x), (1, y)])
    {v u : Value} (hx : a.eval x = v) (hy : a.eval y = u) (hv : IsSl v) (hu : IsSl u)
    (h : wpList Try.prog ops Q rest (a.put o.dst (.slice (some ⟨w.heap.size, 0, none⟩) 2 2)) (w.alloc (.cells #[v, u] 22))) : wpList Try.prog ops Q (o :: rest) a w := by
  obtain ⟨i, hi, hz0, hz1, hz2⟩ := info_parts info_slice
  exact wpList_build2 hgd x y _ ho 22 i _ Try.underlying43 hi hz0 hz1 rfl hx hy (cells_of_sl hv) (cells_of_sl hu) h

theorem below_grown_none {w0 w w' : World} (h : Below w0.heap.size w0 w) (hg : w.grownBy w' none) : Below w0.heap.size w0 w' := h.grown hg h.size (by intro k hk; cases hk)

end Go.Proofs.Ytckopilciekfbaa

namespace Go.TL

def codeB (C : Nat) : List (List Nat) → Nat → Bool
  | [], _ => true
  | s :: S, i => bif Nat.beq (Nat.mod (Nat.shiftRight C (Nat.mul 48 i)) 281474976710656) (encD s) then codeB C S (Nat.succ i) else false
theorem code_of {C : Nat} : ∀ (S : List (List Nat)) (i : Nat), codeB C S i = true → ∀ k, (hk : k < S.length) → Nat.mod (Nat.shiftRight C (Nat.mul 48 (i + k))) 281474976710656 = encD S[k]
  | s :: S, i, h, k, hk => by
    unfold codeB at h
    cases hf : Nat.beq (Nat.mod (Nat.shiftRight C (Nat.mul 48 i)) 281474976710656) (encD s) with
    | false => rw [hf] at h; cases h
    | true =>
      rw [hf, cond_true] at h
      cases k with
      | zero => exact Nat.eq_of_beq_eq_true hf
      | succ k =>
        have := code_of S (i + 1) h k (by simpa using hk)
        rw [show i + (k + 1) = i + 1 + k by omega]; exact this
theorem row_of {n : Nat} {A : List Nat} {P C : Nat} : ∀ (S : List (List Nat)) (j : Nat), rowOK n A P C S j = true → ∀ k, (hk : k < S.length) →
    fput n A S[k] = 64 * Nat.mod (Nat.shiftRight C (Nat.mul 48 (dg P (j + k) / 4))) 281474976710656 + dg P (j + k) % 4 + 1
  | s :: S, j, h, k, hk => by
    unfold rowOK at h
    revert h
    cases hf : Nat.beq (fput n A s) (Nat.succ (Nat.add (Nat.mul 64 (Nat.mod (Nat.shiftRight C (Nat.mul 48 (Nat.shiftRight (dg P j) 2))) 281474976710656)) (Nat.mod (dg P j) 4))) with
    | false => intro h; cases h
    | true =>
      intro h
      rw [cond_true] at h
      cases k with
      | zero =>
        have e := Nat.eq_of_beq_eq_true hf
        have e2 : Nat.shiftRight (dg P j) 2 = dg P j / 4 := by show dg P j >>> 2 = _; rw [Nat.shiftRight_eq_div_pow]
        rw [e2] at e
        exact e
      | succ k =>
        have := row_of S (j + 1) h k (by simpa using hk)
        rw [show j + (k + 1) = j + 1 + k by omega]; exact this
theorem rowsAll_of {n C : Nat} {S : List (List Nat)} : ∀ (As : List (List Nat)) (Ps : List Nat), rowsOK n C S As Ps = true → ∀ k, (hk : k < As.length) → rowOK n As[k] (Ps.getD k 0) C S 0 = true
  | a :: As, [], h, k, hk => by cases h
  | a :: As, P :: Ps, h, k, hk => by
    unfold rowsOK at h
    cases hf : rowOK n a P C S 0 with
    | false => rw [hf] at h; cases h
    | true =>
      rw [hf, cond_true] at h
      cases k with
      | zero => exact hf
      | succ k => exact rowsAll_of As Ps h k (by simpa using hk)

end Go.TL

namespace Go.Mp
open Go Go.Maps Go.MapKept Go.ChangeMaps Go.RowKit

variable {P : Program} {k e t : TypeId} {w w' : World} {b r n cnt : Nat} {m : Value → Option Value} {left : Value → Prop}

/-- A value that is a key of type k. -/
def IsK (P : Program) (k : TypeId) (v : Value) : Prop := ∃ l, keyOf P k v = some l

/-- Block b is a map with n entries; m says what is held. -/
def MapV (P : Program) (k : TypeId) (w : World) (b n : Nat) (m : Value → Option Value) : Prop :=
  ∃ es clock, w.heap[b]? = some (.map es clock) ∧ Stamped es clock ∧ (∀ x ∈ es.toList, IsK P k x.key) ∧ es.size = n ∧ ∀ key v, m key = some v ↔ ∃ x ∈ es.toList, x.key = key ∧ x.val = v

/-- Block b holds a map of whatever content. -/
def IsMapB (w : World) (b : Nat) : Prop := ∃ es clock, w.heap[b]? = some (.map es clock)

theorem MapV.isMap (h : MapV P k w b n m) : IsMapB w b := by obtain ⟨es, c, h, _⟩ := h; exact ⟨es, c, h⟩
theorem MapV.lt (h : MapV P k w b n m) : b < w.heap.size := by obtain ⟨es, c, h, _⟩ := h; exact (Array.getElem?_eq_some_iff.1 h).1
theorem MapV.kept {row : Option Nat} (h : MapV P k w b n m) (hg : w.grownBy w' row) (hb : some b ≠ row) : MapV P k w' b n m := by
  have hl := h.lt
  obtain ⟨es, c, h, r⟩ := h
  exact ⟨es, c, (hg.block b hl hb).trans h, r⟩
theorem MapV.below (h : MapV P k w b n m) (hb : Below w.heap.size w w') : MapV P k w' b n m := by
  have hl := h.lt
  obtain ⟨es, c, h, r⟩ := h
  exact ⟨es, c, (hb.block b hl).trans h, r⟩
theorem MapV.alloc (h : MapV P k w b n m) (o : Obj) : MapV P k (w.alloc o) b n m := h.below ((Below.refl _ _).alloc (Nat.le_refl _) o)
theorem MapV.drew (h : MapV P k w b n m) : MapV P k w.drew b n m := h
theorem IsMapB.kept {row : Option Nat} (h : IsMapB w b) (hg : w.grownBy w' row) (hb : some b ≠ row) : IsMapB w' b := by
  obtain ⟨es, c, h⟩ := h
  exact ⟨es, c, (hg.block b (Array.getElem?_eq_some_iff.1 h).1 hb).trans h⟩
theorem mapV_made (w : World) : MapV P k (w.alloc (.map #[] 0)) w.heap.size 0 (fun _ => none) :=
  ⟨#[], 0, heap_alloc_new w _, stamped_empty 0, by simp, rfl, by simp⟩
theorem MapV.key (h : MapV P k w b n m) {key v : Value} (hm : m key = some v) : IsK P k key := by
  obtain ⟨es, c, _, _, hk, _, hm'⟩ := h
  obtain ⟨x, hx, rfl, _⟩ := (hm' key v).1 hm
  exact hk x hx
theorem MapV.congr {m' : Value → Option Value} (h : MapV P k w b n m) (e : ∀ key, m' key = m key) : MapV P k w b n m' := by
  obtain ⟨es, c, h1, h2, h3, h4, h5⟩ := h
  exact ⟨es, c, h1, h2, h3, h4, fun key v => by rw [e, h5]⟩

/-- 'm[key]' and 'v, ok := m[key]'. -/
theorem MapV.look (c : Bool) (h : MapV P k w b n m) (K : Keyed P k) (ht : P.underlying t = some (.map k e)) {z : Value} (hz : (zeroValue e).run P w = .ok z w) {key : Value} (hk : IsK P k key) :
    (Instr.lookup t (.map (some b)) key c).run P w = .ok (if c then .tuple #[(m key).getD z, .bool (m key).isSome] else (m key).getD z) w := by
  obtain ⟨es, clock, hb, hst, hks, rfl, hm⟩ := h
  obtain ⟨kl, hkey⟩ := hk
  rcases K.find w hkey es.toList hks with ⟨h1, h2⟩ | ⟨j, e0, h1, h2, h3⟩
  · have hn : m key = none := by
      cases hv : m key with
      | none => rfl
      | some v =>
        obtain ⟨x, hx, hxk, _⟩ := (hm key v).1 hv
        exact absurd hxk (h2 x hx)
    rw [hn]
    simp [Instr.lookup, run_underlying ht, MapKept.run_getObj_map hb, K.check w _ hkey, h1, hz, Result.andThen]
  · have hs : m key = some e0.val := (hm key e0.val).2 ⟨e0, List.mem_of_getElem? h2, h3, rfl⟩
    rw [hs]
    simp [Instr.lookup, run_underlying ht, MapKept.run_getObj_map hb, K.check w _ hkey, h1, Result.andThen]

theorem key_inj {es : Array MapEntry} {clock : Nat} (h : Stamped es clock) {x y : MapEntry} (hx : x ∈ es.toList) (hy : y ∈ es.toList) (e : x.key = y.key) : x = y :=
  entry_eq_of_key ((stamped_iff es clock).1 h).2.2 hx hy e

/-- 'm[key] = val'. -/
theorem MapV.store (h : MapV P k w b n m) (K : Keyed P k) (ht : P.underlying t = some (.map k e)) {key : Value} (val : Value) (hk : IsK P k key) :
    ∃ w' m', (Instr.mapUpdate t (.map (some b)) key val).run P w = .ok () w' ∧ MapV P k w' b (if (m key).isSome then n else n + 1) m' ∧ m' key = some val ∧ (∀ key', key' ≠ key → m' key' = m key') ∧ w.grownBy w' (some b) ∧ w'.heap.size = w.heap.size := by
  obtain ⟨es, clock, hb, hst, hks, rfl, hm⟩ := h
  obtain ⟨kl, hkey⟩ := hk
  classical
  have hg : ∀ o, w.grownBy (setBlock w b o) (some b) := fun o => ⟨rfl, rfl, rfl, by simp [setBlock], fun i _ hi => heap_setBlock_other hb _ (fun e => hi (by rw [e]))⟩
  rcases K.find w hkey es.toList hks with ⟨h1, h2⟩ | ⟨j, e0, h1, h2, h3⟩
  · have hn : m key = none := by
      cases hv : m key with
      | none => rfl
      | some v =>
        obtain ⟨x, hx, hxk, _⟩ := (hm key v).1 hv
        exact absurd hxk (h2 x hx)
    refine ⟨setBlock w b (.map (es.push ⟨key, val, clock⟩) (clock + 1)), fun k' => if k' = key then some val else m k', ?_, ⟨es.push ⟨key, val, clock⟩, clock + 1, heap_setBlock_same hb _, stamped_push hst h2, ?_, ?_, ?_⟩, if_pos rfl, fun k' hk' => if_neg hk', hg _, by simp [setBlock]⟩
    · simp [Instr.mapUpdate, run_underlying ht, MapKept.run_getObj_map hb, K.check w false hkey, h1, MapKept.run_setObj_map _ hb, Result.andThen, setBlock]
    · intro x hx
      simp only [Array.toList_push, List.mem_append, List.mem_singleton] at hx
      rcases hx with hx | rfl
      · exact hks x hx
      · exact ⟨kl, hkey⟩
    · rw [hn]; simp
    · intro k' v
      show (if k' = key then some val else m k') = some v ↔ _
      simp only [Array.toList_push, List.mem_append, List.mem_singleton]
      by_cases hk' : k' = key
      · rw [if_pos hk']
        constructor
        · intro h; cases h; exact ⟨_, .inr rfl, hk'.symm, rfl⟩
        · rintro ⟨x, hx | rfl, hxk, hxv⟩
          · exact absurd (hxk.trans hk') (h2 x hx)
          · exact congrArg some hxv
      · rw [if_neg hk', hm]
        constructor
        · rintro ⟨x, hx, hxk, hxv⟩; exact ⟨x, .inl hx, hxk, hxv⟩
        · rintro ⟨x, hx | rfl, hxk, hxv⟩
          · exact ⟨x, hx, hxk, hxv⟩
          · exact absurd hxk.symm hk'
  · have hj : es[j]? = some e0 := by simpa using h2
    have hjl : j < es.toList.length := (List.getElem?_eq_some_iff.1 h2).1
    have h0m : e0 ∈ es.toList := List.mem_of_getElem? h2
    have hs : m key = some e0.val := (hm key e0.val).2 ⟨e0, h0m, h3, rfl⟩
    have hkeyf : ∀ e', es[j]? = some e' → ({ e' with key := key, val := val } : MapEntry).key = e'.key := fun e' he' => by rw [hj] at he'; cases he'; exact h3.symm
    have hlist : (es.modify j (fun e' => { e' with key := key, val := val })).toList = es.toList.set j { e0 with key := key, val := val } := by rw [Array.toList_modify, modify_eq_set _ _ _ _ h2]
    have who : ∀ x, x ∈ es.toList.set j { e0 with key := key, val := val } ↔ x = { e0 with key := key, val := val } ∨ (x ∈ es.toList ∧ x.key ≠ key) := by
      intro x
      constructor
      · intro hx
        obtain ⟨i, hi, ex⟩ := List.getElem_of_mem hx
        rw [List.getElem_set] at ex
        split at ex
        · exact Or.inl ex.symm
        · rename_i hne
          have hi' : i < es.toList.length := by simpa using hi
          refine Or.inr ⟨ex ▸ List.getElem_mem hi', fun hxk => hne ?_⟩
          have hx' : es.toList[i] = e0 := key_inj hst (List.getElem_mem hi') h0m (by rw [ex, hxk, h3])
          have hnd := ((stamped_iff es clock).1 hst).2.1
          have e1 : (es.toList.map (·.born))[i]'(by simpa using hi') = (es.toList.map (·.born))[j]'(by simpa using hjl) := by
            rw [List.getElem_map, List.getElem_map, hx']
            have : es.toList[j] = e0 := by rw [List.getElem?_eq_getElem hjl] at h2; exact Option.some.inj h2
            rw [this]
          exact ((List.getElem_inj hnd).1 e1).symm
      · rintro (rfl | ⟨hx, hxk⟩)
        · exact List.mem_iff_getElem.2 ⟨j, by simpa using hjl, by simp⟩
        · obtain ⟨i, hi, ex⟩ := List.getElem_of_mem hx
          refine List.mem_iff_getElem.2 ⟨i, by simpa using hi, ?_⟩
          rw [List.getElem_set_ne, ex]
          rintro rfl
          have : es.toList[j] = e0 := by rw [List.getElem?_eq_getElem hjl] at h2; exact Option.some.inj h2
          rw [this] at ex
          exact hxk (by rw [← ex, h3])
    refine ⟨setBlock w b (.map (es.modify j (fun e' => { e' with key := key, val := val })) clock), fun k' => if k' = key then some val else m k', ?_,
      ⟨es.modify j (fun e' => { e' with key := key, val := val }), clock, heap_setBlock_same hb _, stamped_modify hst _ _ (fun _ _ => rfl) (fun e' _ he' => hkeyf e' he'), ?_, ?_, ?_⟩, if_pos rfl, fun k' hk' => if_neg hk', hg _, by simp [setBlock]⟩
    · simp [Instr.mapUpdate, run_underlying ht, MapKept.run_getObj_map hb, K.check w false hkey, h1, hj, h3, K.stays w hkey, MapKept.run_setObj_map _ hb, Result.andThen, setBlock]
    · intro x hx
      rw [hlist] at hx
      rcases (who x).1 hx with rfl | ⟨hx, _⟩
      · exact ⟨kl, hkey⟩
      · exact hks x hx
    · rw [hs]; simp
    · intro k' v
      show (if k' = key then some val else m k') = some v ↔ _
      rw [hlist]
      by_cases hk' : k' = key
      · rw [if_pos hk']
        constructor
        · intro h; cases h; exact ⟨_, (who _).2 (.inl rfl), hk'.symm, rfl⟩
        · rintro ⟨x, hx, hxk, hxv⟩
          rcases (who x).1 hx with rfl | ⟨_, hne⟩
          · exact congrArg some hxv
          · exact absurd (hxk.trans hk') hne
      · rw [if_neg hk', hm]
        constructor
        · rintro ⟨x, hx, hxk, hxv⟩; exact ⟨x, (who x).2 (.inr ⟨hx, by rw [hxk]; exact hk'⟩), hxk, hxv⟩
        · rintro ⟨x, hx, hxk, hxv⟩
          rcases (who x).1 hx with rfl | ⟨hx, _⟩
          · exact absurd hxk.symm hk'
          · exact ⟨x, hx, hxk, hxv⟩

/-- A range over the map is under way: block r is its iterator; left says which keys are still to come, cnt how many. -/
def RangeV (P : Program) (k : TypeId) (w : World) (b r n : Nat) (m : Value → Option Value) (left : Value → Prop) (cnt : Nat) : Prop :=
  ∃ es clock since seen c0, w.heap[b]? = some (.map es clock) ∧ Stamped es clock ∧ (∀ x ∈ es.toList, IsK P k x.key) ∧ es.size = n ∧ (∀ key v, m key = some v ↔ ∃ x ∈ es.toList, x.key = key ∧ x.val = v) ∧
    w.heap[r]? = some (.mapIter (some b) since seen c0) ∧ (∀ x ∈ es.toList, x.born < since) ∧ (leftOf es seen).size = cnt ∧ (∀ x ∈ es.toList, left x.key ↔ seen.contains x.born = false) ∧ since ≤ c0 ∧ since ≤ clock

theorem RangeV.mapV (h : RangeV P k w b r n m left cnt) : MapV P k w b n m := by
  obtain ⟨es, clock, since, seen, c0, h1, h2, h3, h4, h5, _⟩ := h
  exact ⟨es, clock, h1, h2, h3, h4, h5⟩
theorem RangeV.lt (h : RangeV P k w b r n m left cnt) : r < w.heap.size := by
  obtain ⟨es, clock, since, seen, c0, _, _, _, _, _, hr, _⟩ := h
  exact (Array.getElem?_eq_some_iff.1 hr).1
theorem RangeV.kept {row : Option Nat} (h : RangeV P k w b r n m left cnt) (hg : w.grownBy w' row) (hb : some b ≠ row) (hr : some r ≠ row) : RangeV P k w' b r n m left cnt := by
  have h1 := h.mapV.lt
  have h2 := h.lt
  obtain ⟨es, clock, since, seen, c0, e1, e2, e3, e4, e5, e6, rest⟩ := h
  exact ⟨es, clock, since, seen, c0, (hg.block b h1 hb).trans e1, e2, e3, e4, e5, (hg.block r h2 hr).trans e6, rest⟩
theorem RangeV.below (h : RangeV P k w b r n m left cnt) (hb : Below w.heap.size w w') : RangeV P k w' b r n m left cnt := by
  have h1 := h.mapV.lt
  have h2 := h.lt
  obtain ⟨es, clock, since, seen, c0, e1, e2, e3, e4, e5, e6, rest⟩ := h
  exact ⟨es, clock, since, seen, c0, (hb.block b h1).trans e1, e2, e3, e4, e5, (hb.block r h2).trans e6, rest⟩
theorem RangeV.ne (h : RangeV P k w b r n m left cnt) : r ≠ b := by
  obtain ⟨es, clock, since, seen, c0, hb, _, _, _, _, hr, _⟩ := h
  intro e
  rw [e, hb] at hr
  cases hr

/-- 'range m'. -/
theorem MapV.range (h : MapV P k w b n m) (ht : P.underlying t = some (.map k e)) :
    ∃ w', (Instr.range t (.map (some b))).run P w = .ok (.pointer (some ⟨w.heap.size, 0, none⟩)) w' ∧ RangeV P k w' b w.heap.size n m (fun _ => True) n ∧ Below w.heap.size w w' ∧ w'.heap.size = w.heap.size + 1 := by
  have hlt := h.lt
  obtain ⟨es, clock, hb, hst, hk, hn, hm⟩ := h
  refine ⟨_, run_range_map w t k e b es clock ht hb, ⟨es, clock, clock, #[], clock, ((MapKept.heap_alloc w _).2 b hlt).trans hb, hst, hk, hn, hm, (MapKept.heap_alloc w _).1, hst.1, ?_, fun x _ => by simp, Nat.le_refl _, Nat.le_refl _⟩, (Below.refl _ _).alloc (Nat.le_refl _) _, by simp⟩
  simp [leftOf, ← hn]

/-- The step: nothing is left, or one of the keys that are left, whichever. -/
theorem RangeV.next (h : RangeV P k w b r n m left cnt) (ty : TypeId) :
    (cnt = 0 ∧ (∀ key v, m key = some v → ¬ left key) ∧ (Instr.next (.pointer (some ⟨r, 0, none⟩)) false ty).run P w = .ok (.tuple #[.bool false]) w) ∨
    ∃ key v w' cnt', m key = some v ∧ left key ∧ (Instr.next (.pointer (some ⟨r, 0, none⟩)) false ty).run P w = .ok (.tuple #[.bool true, key, v]) w' ∧
      RangeV P k w' b r n m (fun z => left z ∧ z ≠ key) cnt' ∧ cnt' < cnt ∧ w.grownBy w' (some r) ∧ w'.heap.size = w.heap.size ∧ (Instr.entry (.pointer (some ⟨r, 0, none⟩))).run P w' = .ok (.tuple #[key, v]) w' := by
  have hne := h.ne
  obtain ⟨es, clock, since, seen, c0, hb, hst, hks, hn, hm, hr, hold, rfl, hl, hsc, hsk⟩ := h
  have hs3 := (stamped_iff es clock).1 hst
  rcases run_next_at (P := P) w ty r b since c0 seen es clock hr hb hold hsc with ⟨h0, hrun⟩ | ⟨e, he, w1, hal, hrun⟩
  · refine Or.inl ⟨h0, fun key v hkv hlk => ?_, hrun⟩
    obtain ⟨x, hx, rfl, _⟩ := (hm key v).1 hkv
    have h1 := (hl x hx).1 hlk
    rw [all_seen es seen h0 x hx] at h1
    cases h1
  · obtain ⟨hem, hes⟩ := mem_left he
    have hr1 : w1.heap[r]? = some (.mapIter (some b) since seen c0) := by rcases hal with rfl | rfl <;> exact hr
    have hb1 : w1.heap[b]? = some (.map es clock) := by rcases hal with rfl | rfl <;> exact hb
    have hset := heap_set (o' := .mapIter (some b) since (seen.push e.born) clock) hr1
    have hb' : (setBlock w1 r (.mapIter (some b) since (seen.push e.born) clock)).heap[b]? = some (.map es clock) := (hset.2 b (fun e1 => hne e1.symm)).trans hb1
    refine Or.inr ⟨e.key, e.val, _, _, (hm _ _).2 ⟨e, hem, rfl, rfl⟩, (hl e hem).2 hes, hrun,
      ⟨es, clock, since, seen.push e.born, clock, hb', hst, hks, hn, hm, hset.1, hold, rfl, fun x hx => ?_, hsk, hsk⟩, left_shrinks es seen e he, ?_, ?_,
      run_entry_at _ r b since seen es clock e hset.1 hb' hem hs3.2.1⟩
    · rw [contains_push]
      show left x.key ∧ x.key ≠ e.key ↔ _
      rw [hl x hx]
      by_cases hbe : x.born = e.born
      · obtain rfl := born_inj hs3.2.1 hx hem hbe
        simp
      · have : x.key ≠ e.key := fun h => hbe (congrArg MapEntry.born (entry_eq_of_key hs3.2.2 hx hem h))
        simp [hbe, this]
    · rcases hal with rfl | rfl <;> exact ⟨rfl, rfl, rfl, by simp [setBlock], fun i _ hi => hset.2 i (fun e1 => hi (by rw [e1]))⟩
    · rcases hal with rfl | rfl <;> simp [setBlock]

section
variable {ops : Array Oper} {rest : List Oper} {o : Oper} {a : Act} {Q : Exit → Act → World → Prop}
/-- 'range m' at the operation. -/
theorem wpList_rangeV (hg : o.guard = none) (x : Operand) (t : TypeId) (hop : o.op = Op.range t x) {e : TypeId} (ht : P.underlying t = some (.map k e)) (hx : a.eval x = .map (some b)) (h : MapV P k w b n m)
    (hK : ∀ w', RangeV P k w' b w.heap.size n m (fun _ => True) n → Below w.heap.size w w' → w'.heap.size = w.heap.size + 1 → wpList P ops Q rest (a.put o.dst (.pointer (some ⟨w.heap.size, 0, none⟩))) w') : wpList P ops Q (o :: rest) a w := by
  refine wpList_plain hg fun K' hK' => ?_
  obtain ⟨w', hrun, r1, r2, r3⟩ := h.range ht
  unfold Oper.wp
  simp [execOp, hop, hx, hrun, Result.andThen]
  exact hK' _ _ (hK w' r1 r2 r3)
/-- The step at the operation. -/
theorem wpList_nextV (hg : o.guard = none) (it : Operand) (hop : o.op = Op.next it false) (hit : a.eval it = .pointer (some ⟨r, 0, none⟩)) (h : RangeV P k w b r n m left cnt)
    (hDone : cnt = 0 → (∀ key v, m key = some v → ¬ left key) → wpList P ops Q rest (a.put o.dst (.tuple #[.bool false])) w)
    (hMore : ∀ key v w' cnt', m key = some v → left key → RangeV P k w' b r n m (fun z => left z ∧ z ≠ key) cnt' → cnt' < cnt → w.grownBy w' (some r) → w'.heap.size = w.heap.size →
      (Instr.entry (.pointer (some ⟨r, 0, none⟩))).run P w' = .ok (.tuple #[key, v]) w' → wpList P ops Q rest (a.put o.dst (.tuple #[.bool true, key, v])) w') : wpList P ops Q (o :: rest) a w := by
  refine wpList_plain hg fun K' hK' => ?_
  unfold Oper.wp
  rcases h.next o.type with ⟨h0, hl, hrun⟩ | ⟨key, v, w', cnt', hm, hl, hrun, hrg, hlt, hgr, hsz, hen⟩
  · simp [execOp, hop, hit, hrun, Result.andThen]
    exact hK' _ _ (hDone h0 hl)
  · simp [execOp, hop, hit, hrun, Result.andThen]
    exact hK' _ _ (hMore key v w' cnt' hm hl hrg hlt hgr hsz hen)
/-- An entry of a literal, at the operation. -/
theorem wpList_insertV (hg : o.guard = none) (x y v : Operand) (t : TypeId) (hop : o.op = Op.insert t x y v) (K : Keyed P k) {e : TypeId} (ht : P.underlying t = some (.map k e)) (hx : a.eval x = .map (some b)) (h : MapV P k w b n m)
    {key val : Value} (hy : a.eval y = key) (hv : a.eval v = val) (hk : IsK P k key)
    (hK : ∀ w' m', MapV P k w' b (if (m key).isSome then n else n + 1) m' → m' key = some val → (∀ key', key' ≠ key → m' key' = m key') → w.grownBy w' (some b) → w'.heap.size = w.heap.size → wpList P ops Q rest (a.put o.dst undef) w') : wpList P ops Q (o :: rest) a w := by
  refine wpList_plain hg fun K' hK' => ?_
  obtain ⟨w', m', hrun, r1, r2, r3, r4, r5⟩ := h.store K ht val hk
  unfold Oper.wp
  simp [execOp, hop, hx, hy, hv, hrun, Result.andThen]
  exact hK' _ _ (hK w' m' r1 r2 r3 r4 r5)
end

/-- A slice that is read is no map: a map's block may be written. -/
theorem Sl_grown_map {w w' : World} {v : Value} {s : Nat} {cs : List Value} (h : Sl.Sl w v s cs) (hg : w.grownBy w' (some b)) (hb : IsMapB w b) : Sl.Sl w' v s cs := by
  refine ⟨h.1, h.2.1, fun j u hu => ?_⟩
  have h1 := h.2.2 j u hu
  have hlt := World.block_lt_of_cell? w _ h1
  have hne : Sl.vblk v ≠ b := by
    obtain ⟨es, c, hb⟩ := hb
    intro e
    simp [World.cell?, Sl.vat, e, hb] at h1
  rw [World.cell?_of_block (w := w) (a := Sl.vat v j) (hg.block _ hlt (fun e => hne (by injection e)))]
  exact h1
theorem Sl_grown_iter {w w' : World} {v : Value} {s : Nat} {cs : List Value} (h : Sl.Sl w v s cs) (hg : w.grownBy w' (some r)) (hb : ∃ x y z u, w.heap[r]? = some (.mapIter x y z u)) : Sl.Sl w' v s cs := by
  refine ⟨h.1, h.2.1, fun j u hu => ?_⟩
  have h1 := h.2.2 j u hu
  have hlt := World.block_lt_of_cell? w _ h1
  have hne : Sl.vblk v ≠ r := by
    obtain ⟨x, y, z, c, hb⟩ := hb
    intro e
    simp [World.cell?, Sl.vat, e, hb] at h1
  rw [World.cell?_of_block (w := w) (a := Sl.vat v j) (hg.block _ hlt (fun e => hne (by injection e)))]
  exact h1
theorem RangeV.iter (h : RangeV P k w b r n m left cnt) : ∃ x y z u, w.heap[r]? = some (.mapIter x y z u) := by
  obtain ⟨es, clock, since, seen, c0, _, _, _, _, _, hr, _⟩ := h
  exact ⟨_, _, _, _, hr⟩

end Go.Mp

namespace Go.Det
open Lean.Grind (CommRing)
variable {R : Type} [CommRing R]

theorem mulc (a b : R) : a * b = b * a := by grind
def sumN (f : Nat → R) : Nat → R
  | 0 => 0
  | n + 1 => sumN f n + f n
def sgN (c : Nat) : R := if c % 2 = 0 then 1 else -1
def skp (c j : Nat) : Nat := if j < c then j else j + 1
def dt : Nat → (Nat → Nat → R) → R
  | 0, _ => 1
  | n + 1, A => sumN (fun c => sgN c * A 0 c * dt n (fun i j => A (i + 1) (skp c j))) (n + 1)

theorem sgN_zero : sgN (R := R) 0 = 1 := rfl
theorem sgN_succ (c : Nat) : sgN (R := R) (c + 1) = -sgN c := by
  unfold sgN
  by_cases h : c % 2 = 0
  · rw [if_pos h, if_neg (by omega)]
  · rw [if_neg h, if_pos (by omega)]; grind
theorem sumN_congr {f g : Nat → R} (n : Nat) (h : ∀ k, k < n → f k = g k) : sumN f n = sumN g n := by
  induction n with
  | zero => rfl
  | succ n ih => rw [sumN, sumN, ih fun k hk => h k (by omega), h n (by omega)]
theorem sumN_lin (a b : R) (f g : Nat → R) (n : Nat) : sumN (fun k => a * f k + b * g k) n = a * sumN f n + b * sumN g n := by
  induction n with
  | zero => simp only [sumN]; grind
  | succ n ih => simp only [sumN]; rw [ih]; grind
theorem sumN_add (f g : Nat → R) (n : Nat) : sumN (fun k => f k + g k) n = sumN f n + sumN g n := by
  induction n with
  | zero => simp only [sumN]; grind
  | succ n ih => simp only [sumN]; rw [ih]; grind
theorem sumN_mul (a : R) (f : Nat → R) (n : Nat) : sumN (fun k => a * f k) n = a * sumN f n := by
  induction n with
  | zero => simp only [sumN]; grind
  | succ n ih => simp only [sumN]; rw [ih]; grind
theorem sumN_zero {f : Nat → R} (n : Nat) (h : ∀ k, k < n → f k = 0) : sumN f n = 0 := by
  induction n with
  | zero => rfl
  | succ n ih => rw [sumN, ih fun k hk => h k (by omega), h n (by omega)]; grind
theorem sumN_one {f : Nat → R} (n p : Nat) (hp : p < n) (h : ∀ k, k < n → k ≠ p → f k = 0) : sumN f n = f p := by
  induction n with
  | zero => omega
  | succ n ih =>
    rw [sumN]
    by_cases e : p = n
    · subst e
      rw [sumN_zero p fun k hk => h k (by omega) (by omega)]; grind
    · rw [ih (by omega) fun k hk => h k (by omega), h n (by omega) (by omega)]; grind
theorem sumN_two {f : Nat → R} (n p : Nat) (hp : p + 1 < n) (h : ∀ k, k < n → k ≠ p → k ≠ p + 1 → f k = 0) : sumN f n = f p + f (p + 1) := by
  induction n with
  | zero => omega
  | succ n ih =>
    rw [sumN]
    by_cases e : p + 1 = n
    · subst e
      rw [sumN_one (p + 1) p (by omega) fun k hk hkp => h k (by omega) hkp (by omega)]
    · rw [ih (by omega) fun k hk => h k (by omega), h n (by omega) (by omega) (by omega)]; grind
theorem dt_congr {n : Nat} : ∀ {A B : Nat → Nat → R}, (∀ i j, i < n → j < n → A i j = B i j) → dt n A = dt n B := by
  induction n with
  | zero => intro A B _; rfl
  | succ n ih =>
    intro A B h
    rw [dt, dt]
    refine sumN_congr _ fun c hc => ?_
    rw [h 0 c (by omega) hc]
    congr 1
    refine ih fun i j hi hj => h _ _ (by omega) ?_
    unfold skp; split <;> omega

def upd (A : Nat → Nat → R) (r : Nat) (f : Nat → R) : Nat → Nat → R := fun i => if i = r then f else A i
omit [CommRing R] in
theorem upd_same (A : Nat → Nat → R) (r : Nat) (f : Nat → R) : upd A r f r = f := by simp [upd]
omit [CommRing R] in
theorem upd_other (A : Nat → Nat → R) {r i : Nat} (f : Nat → R) (h : i ≠ r) : upd A r f i = A i := by simp [upd, h]
omit [CommRing R] in
theorem upd_self (A : Nat → Nat → R) (r : Nat) : upd A r (A r) = A := by funext i; unfold upd; split <;> simp_all
omit [CommRing R] in
theorem upd_comm (A : Nat → Nat → R) {r s : Nat} (f g : Nat → R) (h : r ≠ s) : upd (upd A r f) s g = upd (upd A s g) r f := by
  funext i; unfold upd; by_cases h1 : i = s <;> by_cases h2 : i = r <;> simp_all

/-- Linear in each row, zero if two neighbouring rows are equal, and dependent on n rows and columns only. -/
structure Alt (n : Nat) (F : (Nat → Nat → R) → R) : Prop where
  congr : ∀ {A B : Nat → Nat → R}, (∀ i j, i < n → j < n → A i j = B i j) → F A = F B
  lin : ∀ (A : Nat → Nat → R) (r : Nat) (a b : R) (f g : Nat → R), r < n → F (upd A r (fun j => a * f j + b * g j)) = a * F (upd A r f) + b * F (upd A r g)
  adj : ∀ (A : Nat → Nat → R) (r : Nat), r + 1 < n → (∀ j, j < n → A r j = A (r + 1) j) → F A = 0

namespace Alt
variable {n : Nat} {F : (Nat → Nat → R) → R}
theorem add (h : Alt n F) (A : Nat → Nat → R) (r : Nat) (f g : Nat → R) (hr : r < n) : F (upd A r (fun j => f j + g j)) = F (upd A r f) + F (upd A r g) := by
  have e := h.lin A r 1 1 f g hr
  have e2 : (fun j => (1 : R) * f j + 1 * g j) = fun j => f j + g j := by funext j; grind
  rw [e2] at e; rw [e]; grind
theorem smul (h : Alt n F) (A : Nat → Nat → R) (r : Nat) (a : R) (f : Nat → R) (hr : r < n) : F (upd A r (fun j => a * f j)) = a * F (upd A r f) := by
  have e := h.lin A r a 0 f f hr
  have e2 : (fun j => a * f j + 0 * f j) = fun j => a * f j := by funext j; grind
  rw [e2] at e; rw [e]; grind
/-- From 'zero if rows p and q are equal' to 'a swap of both changes the sign'. -/
theorem swapOf (h : Alt n F) {p q : Nat} (hp : p < n) (hq : q < n) (hpq : p ≠ q) (hz : ∀ A : Nat → Nat → R, (∀ j, j < n → A p j = A q j) → F A = 0) (A : Nat → Nat → R) (f g : Nat → R) :
    F (upd (upd A p f) q g) = -F (upd (upd A p g) q f) := by
  have z := hz (upd (upd A p (fun j => f j + g j)) q (fun j => f j + g j)) (fun j _ => by rw [upd_other _ _ hpq, upd_same, upd_same])
  rw [h.add _ q f g hq, upd_comm _ _ _ hpq, upd_comm A _ _ hpq, h.add _ p f g hp, h.add _ p f g hp] at z
  have z1 := hz (upd (upd A q f) p f) (fun j _ => by rw [upd_same, upd_other _ _ hpq.symm, upd_same])
  have z2 := hz (upd (upd A q g) p g) (fun j _ => by rw [upd_same, upd_other _ _ hpq.symm, upd_same])
  rw [z1, z2] at z
  rw [upd_comm A f g hpq, upd_comm A g f hpq]
  grind
theorem zero_of (h : Alt n F) (d : Nat) : ∀ (p : Nat) (A : Nat → Nat → R), p + d + 1 < n → (∀ j, j < n → A p j = A (p + d + 1) j) → F A = 0 := by
  induction d with
  | zero => intro p A hp he; exact h.adj A p hp he
  | succ d ih =>
    intro p A hp he
    have s := h.swapOf (p := p + d + 1) (q := p + d + 1 + 1) (by omega) (by omega) (by omega) (fun B hB => h.adj B _ (by omega) hB) A (A (p + d + 1)) (A (p + d + 1 + 1))
    rw [upd_self, upd_self] at s
    rw [s, ih p _ (by omega) (fun j hj => by
      rw [upd_other _ _ (show p ≠ p + d + 1 + 1 by omega), upd_other _ _ (show p ≠ p + d + 1 by omega), upd_other _ _ (show p + d + 1 ≠ p + d + 1 + 1 by omega), upd_same]
      exact he j hj)]
    grind
theorem zero (h : Alt n F) {p q : Nat} (hp : p < n) (hq : q < n) (hpq : p ≠ q) (A : Nat → Nat → R) (he : ∀ j, j < n → A p j = A q j) : F A = 0 := by
  rcases Nat.lt_or_gt_of_ne hpq with hl | hl
  · have := h.zero_of (q - p - 1) p A (by omega)
    rw [show p + (q - p - 1) + 1 = q by omega] at this
    exact this he
  · have := h.zero_of (p - q - 1) q A (by omega)
    rw [show q + (p - q - 1) + 1 = p by omega] at this
    exact this fun j hj => (he j hj).symm
theorem swap (h : Alt n F) {p q : Nat} (hp : p < n) (hq : q < n) (hpq : p ≠ q) (A : Nat → Nat → R) (f g : Nat → R) :
    F (upd (upd A p f) q g) = -F (upd (upd A p g) q f) := h.swapOf hp hq hpq (fun B hB => h.zero hp hq hpq B hB) A f g
/-- A multiple of another row added. -/
theorem addRow (h : Alt n F) {p q : Nat} (hp : p < n) (hq : q < n) (hpq : p ≠ q) (A : Nat → Nat → R) (a : R) : F (upd A q (fun j => A q j + a * A p j)) = F A := by
  have e := h.lin A q 1 a (A q) (A p) hq
  have e2 : (fun j => (1 : R) * A q j + a * A p j) = fun j => A q j + a * A p j := by funext j; grind
  rw [e2, upd_self, h.zero hp hq hpq (upd A q (A p)) (fun j _ => by rw [upd_other _ _ hpq, upd_same])] at e
  rw [e]; grind
/-- A row that is a sum of multiples of rows. -/
theorem sum (h : Alt n F) (A : Nat → Nat → R) {r : Nat} (hr : r < n) (a : Nat → R) (f : Nat → Nat → R) (m : Nat) : F (upd A r (fun j => sumN (fun k => a k * f k j) m)) = sumN (fun k => a k * F (upd A r (f k))) m := by
  induction m with
  | zero =>
    have e := h.smul A r 0 (fun _ => 0) hr
    have e2 : (fun j => sumN (fun k => a k * f k j) 0) = fun _ => (0 : R) * 0 := by funext j; simp only [sumN]; grind
    rw [e2, e]; simp only [sumN]; grind
  | succ m ih =>
    have e2 : (fun j => sumN (fun k => a k * f k j) (m + 1)) = fun j => sumN (fun k => a k * f k j) m + a m * f m j := by funext j; rfl
    rw [e2, h.add A r _ _ hr, ih, h.smul A r _ _ hr]; rfl
end Alt

def uni (i j : Nat) : R := if i = j then 1 else 0
def usk (c j : Nat) : Nat := if j < c then j else j - 1
theorem usk_skp (c j : Nat) : usk c (skp c j) = j := by unfold usk skp; (repeat' split) <;> omega
theorem skp_ne (c j : Nat) : skp c j ≠ c := by unfold skp; split <;> omega
theorem skp_usk {c j : Nat} (h : j ≠ c) : skp c (usk c j) = j := by unfold usk skp; (repeat' split) <;> omega
/-- Row 0 the unit row c; the others those of B, with 0 in column c. -/
def emb (c : Nat) (B : Nat → Nat → R) : Nat → Nat → R := fun i j => if i = 0 then uni c j else if j = c then 0 else B (i - 1) (usk c j)
theorem emb_upd (c : Nat) (B : Nat → Nat → R) (r : Nat) (f : Nat → R) : emb c (upd B r f) = upd (emb c B) (r + 1) (fun j => if j = c then 0 else f (usk c j)) := by
  funext i j
  unfold emb upd
  by_cases h : i = r + 1
  · subst h; simp
  · by_cases h0 : i = 0
    · subst h0; simp
    · have : i - 1 ≠ r := by omega
      simp [h, h0, this]
theorem alt_emb {n : Nat} {F : (Nat → Nat → R) → R} (h : Alt (n + 1) F) {c : Nat} (hc : c < n + 1) : Alt n (fun B => F (emb c B)) where
  congr := fun {A B} e => h.congr fun i j hi hj => by
    unfold emb
    split
    · rfl
    · split
      · rfl
      · rename_i h0 h1
        exact e _ _ (by omega) (by unfold usk; split <;> omega)
  lin := fun A r a b f g hr => by
    show F _ = a * F _ + b * F _
    rw [emb_upd, emb_upd, emb_upd, ← h.lin _ _ a b _ _ (show r + 1 < n + 1 by omega)]
    congr 2
    funext j
    split
    · grind
    · rfl
  adj := fun A r hr e => h.adj _ (r + 1) (by omega) fun j hj => by
    show emb c A (r + 1) j = emb c A (r + 1 + 1) j
    unfold emb
    rw [if_neg (show ¬ r + 1 = 0 by omega), if_neg (show ¬ r + 1 + 1 = 0 by omega)]
    split
    · rfl
    · rename_i h1
      exact e (usk c j) (by unfold usk; split <;> omega)
/-- The entries in column c below a unit row c may be taken away. -/
theorem clear_col {n : Nat} {F : (Nat → Nat → R) → R} (h : Alt (n + 1) F) {c : Nat} (A : Nat → Nat → R) (h0 : ∀ j, A 0 j = uni c j) (m : Nat) (hm : m ≤ n) :
    F (fun i j => if 1 ≤ i ∧ i ≤ m then A i j - A i c * uni c j else A i j) = F A := by
  induction m with
  | zero => congr 1; funext i j; rw [if_neg (by omega)]
  | succ m ih =>
    have ar := h.addRow (p := 0) (q := m + 1) (by omega) (by omega) (by omega) (fun i j => if 1 ≤ i ∧ i ≤ m then A i j - A i c * uni c j else A i j) (-(A (m + 1) c))
    rw [← ih (by omega), ← ar]
    congr 1
    funext i j
    unfold upd
    by_cases e : i = m + 1
    · subst e
      simp only [if_true]
      rw [if_pos (show 1 ≤ m + 1 ∧ m + 1 ≤ m + 1 by omega), if_neg (show ¬ (1 ≤ m + 1 ∧ m + 1 ≤ m) by omega), if_neg (show ¬ (1 ≤ 0 ∧ 0 ≤ m) by omega), h0]; grind
    · rw [if_neg e]
      simp only
      by_cases e2 : 1 ≤ i ∧ i ≤ m
      · rw [if_pos (by omega), if_pos e2]
      · rw [if_neg (by omega), if_neg e2]
theorem emb_uni {n : Nat} {F : (Nat → Nat → R) → R} (h : Alt (n + 1) F) (c : Nat) (hc : c < n + 1) : F (emb c uni) = sgN c * F uni := by
  induction c with
  | zero =>
    have e : emb 0 (uni (R := R)) = uni := by
      funext i j
      unfold emb uni usk
      by_cases h0 : i = 0
      · subst h0; simp
      · by_cases h1 : j = 0
        · subst h1; simp [h0]
        · rw [if_neg h0, if_neg h1, if_neg (show ¬ j < 0 by omega)]
          by_cases h2 : i = j
          · subst h2; simp
          · rw [if_neg (by omega), if_neg h2]
    rw [e, sgN_zero]; grind
  | succ c ih =>
    have s := h.swap (p := 0) (q := c + 1) (by omega) (by omega) (by omega) (emb c uni) (uni (c + 1)) (uni c)
    have e1 : upd (upd (emb c (uni (R := R))) 0 (uni (c + 1))) (c + 1) (uni c) = emb (c + 1) uni := by
      funext i j
      unfold upd emb
      by_cases h1 : i = c + 1
      · subst h1
        simp only [if_true]
        rw [if_neg (by omega)]
        unfold uni usk
        by_cases h2 : j = c + 1
        · subst h2; simp
        · rw [if_neg h2]
          by_cases h3 : j < c + 1
          · rw [if_pos h3]; simp
          · rw [if_neg h3, if_neg (by omega), if_neg (by omega)]
      · rw [if_neg h1]
        by_cases h0 : i = 0
        · rw [if_pos h0, if_pos h0]
        · rw [if_neg h0, if_neg h0, if_neg h0]
          have u1 : usk (c + 1) c = c := by unfold usk; rw [if_pos (by omega)]
          have u2 : usk c (c + 1) = c := by unfold usk; rw [if_neg (by omega)]; omega
          unfold uni
          by_cases h2 : j = c
          · subst h2
            rw [if_pos rfl, if_neg (show ¬ j = j + 1 by omega), u1, if_neg (show ¬ i - 1 = j by omega)]
          · rw [if_neg h2]
            by_cases h3 : j = c + 1
            · subst h3
              rw [if_pos rfl, u2, if_neg (show ¬ i - 1 = c by omega)]
            · rw [if_neg h3]
              have u3 : usk c j = usk (c + 1) j := by unfold usk; (repeat' split) <;> omega
              rw [u3]
    have e2 : upd (upd (emb c (uni (R := R))) 0 (uni c)) (c + 1) (uni (c + 1)) = emb c uni := by
      funext i j
      unfold upd emb
      by_cases h1 : i = c + 1
      · subst h1
        simp only [if_true]
        rw [if_neg (by omega)]
        unfold uni usk
        by_cases h2 : j = c
        · subst h2; simp
        · rw [if_neg h2]
          by_cases h3 : j < c
          · rw [if_pos h3, if_neg (by omega), if_neg (by omega)]
          · rw [if_neg h3]
            by_cases h4 : j = c + 1
            · subst h4; simp
            · rw [if_neg (by omega), if_neg (by omega)]
      · rw [if_neg h1]
        by_cases h0 : i = 0
        · rw [if_pos h0, if_pos h0]
        · rw [if_neg h0]
    rw [e1, e2, ih (by omega)] at s
    rw [s, sgN_succ]; grind

/-- The determinant is the only one. -/
theorem unique {n : Nat} : ∀ {F : (Nat → Nat → R) → R}, Alt n F → ∀ A, F A = dt n A * F uni := by
  induction n with
  | zero => intro F h A; rw [h.congr (A := A) (B := uni) (fun i j hi => by omega), dt]; grind
  | succ n ih =>
    intro F h A
    have e1 : F A = F (upd A 0 (fun j => sumN (fun c => A 0 c * uni c j) (n + 1))) := by
      refine h.congr fun i j hi hj => ?_
      unfold upd
      split
      · rename_i h0
        subst h0
        simp only
        rw [sumN_one (n + 1) j hj (fun k _ hk => by unfold uni; rw [if_neg hk]; grind)]
        unfold uni; rw [if_pos rfl]; grind
      · rfl
    rw [e1, h.sum A (by omega), dt, mulc, ← sumN_mul]
    refine sumN_congr _ fun c hc => ?_
    have e2 : F (upd A 0 (uni c)) = F (emb c (fun i j => A (i + 1) (skp c j))) := by
      rw [← clear_col h (c := c) (upd A 0 (uni c)) (fun j => by rw [upd_same]) n (Nat.le_refl _)]
      refine h.congr fun i j hi hj => ?_
      unfold emb upd
      by_cases h0 : i = 0
      · subst h0; simp
      · rw [if_pos (by omega), if_neg h0, if_neg h0]
        by_cases h1 : j = c
        · subst h1; rw [if_pos rfl]; unfold uni; rw [if_pos rfl]; grind
        · rw [if_neg h1]
          simp only
          rw [skp_usk h1, show i - 1 + 1 = i by omega]; unfold uni; rw [if_neg (fun e => h1 e.symm)]; grind
    rw [e2, ih (alt_emb h hc), emb_uni h c hc]
    grind

theorem skp_skp {c d j : Nat} (h : d ≤ c) : skp d (skp c j) = skp (c + 1) (skp d j) := by unfold skp; (repeat' split) <;> omega
theorem cancel_sum (T : Nat → Nat → R) (m : Nat) (h : ∀ c d, d ≤ c → T (c + 1) d = -T d c) : sumN (fun c => sumN (fun d => T c d) m) (m + 1) = 0 := by
  induction m with
  | zero => simp only [sumN]; grind
  | succ m ih =>
    have e : sumN (fun c => sumN (fun d => T c d) (m + 1)) (m + 1 + 1) = sumN (fun c => sumN (fun d => T c d) m) (m + 1) + sumN (fun c => T c m) (m + 1) + sumN (fun d => T (m + 1) d) (m + 1) := by
      rw [sumN]
      congr 1
      show sumN (fun c => sumN (fun d => T c d) m + T c m) (m + 1) = _
      rw [sumN_add]
    rw [e, ih, sumN_congr (f := fun d => T (m + 1) d) (g := fun d => (-1) * T d m) _ (fun d hd => by rw [h m d (by omega)]; grind), sumN_mul]
    grind
omit [CommRing R] in
theorem minor_upd (A : Nat → Nat → R) (r c : Nat) (f : Nat → R) : (fun i j => upd A (r + 1) f (i + 1) (skp c j)) = upd (fun i j => A (i + 1) (skp c j)) r (fun j => f (skp c j)) := by
  funext i j
  unfold upd
  by_cases h : i = r
  · subst h; simp
  · simp [h]
theorem alt_dt (n : Nat) : Alt n (dt (R := R) n) := by
  induction n with
  | zero => exact ⟨fun _ => rfl, fun A r a b f g h => by omega, fun A r h => by omega⟩
  | succ n ih =>
    refine ⟨fun e => dt_congr e, ?_, ?_⟩
    · intro A r a b f g hr
      rw [dt, dt, dt, ← sumN_lin]
      refine sumN_congr _ fun c hc => ?_
      cases r with
      | zero =>
        have e : ∀ g : Nat → R, (fun i j => upd A 0 g (i + 1) (skp c j)) = fun i j => A (i + 1) (skp c j) := fun g => by funext i j; simp [upd]
        rw [e, e, e, upd_same, upd_same, upd_same]; grind
      | succ r =>
        rw [minor_upd, minor_upd, minor_upd, ih.lin _ r a b _ _ (by omega), upd_other _ _ (by omega), upd_other _ _ (by omega), upd_other _ _ (by omega)]
        grind
    · intro A r hr he
      cases r with
      | succ r =>
        rw [dt]
        refine sumN_zero _ fun c hc => ?_
        rw [ih.adj _ r (by omega) (fun j hj => he _ (by unfold skp; split <;> omega))]
        grind
      | zero =>
        obtain ⟨m, rfl⟩ : ∃ m, n = m + 1 := ⟨n - 1, by omega⟩
        rw [dt]
        have e : ∀ c, c < m + 1 + 1 → sgN c * A 0 c * dt (m + 1) (fun i j => A (i + 1) (skp c j)) = sumN (fun d => sgN c * sgN d * A 0 c * A 0 (skp c d) * dt m (fun i j => A (i + 1 + 1) (skp c (skp d j)))) (m + 1) := by
          intro c hc
          rw [dt, ← sumN_mul]
          refine sumN_congr _ fun d hd => ?_
          rw [he (skp c d) (by unfold skp; split <;> omega)]
          grind
        rw [sumN_congr _ e]
        refine cancel_sum _ (m + 1) fun c d hd => ?_
        have e1 : skp (c + 1) d = d := by unfold skp; rw [if_pos (by omega)]
        have e2 : skp d c = c + 1 := by unfold skp; rw [if_neg (by omega)]
        have e3 : (fun i j => A (i + 1 + 1) (skp (c + 1) (skp d j))) = fun i j => A (i + 1 + 1) (skp d (skp c j)) := by funext i j; rw [skp_skp hd]
        rw [e1, e2, e3, sgN_succ]
        grind

theorem dt_uni (n : Nat) : dt n (uni (R := R)) = 1 := by
  induction n with
  | zero => rfl
  | succ n ih =>
    rw [dt, sumN_one (n + 1) 0 (by omega) (fun k _ hk => by unfold uni; rw [if_neg (fun e => hk e.symm)]; grind)]
    have e : (fun i j => uni (R := R) (i + 1) (skp 0 j)) = uni := by funext i j; unfold uni skp; simp
    rw [e, ih, sgN_zero]; unfold uni; rw [if_pos rfl]; grind

def mul (n : Nat) (A B : Nat → Nat → R) : Nat → Nat → R := fun i j => sumN (fun k => A i k * B k j) n
/-- Transposed. -/
theorem alt_turn (n : Nat) : Alt n (fun A : Nat → Nat → R => dt n (fun i j => A j i)) := by
  induction n with
  | zero => exact ⟨fun _ => rfl, fun A r a b f g h => by omega, fun A r h => by omega⟩
  | succ n ih =>
    have hmin : ∀ (A : Nat → Nat → R) (r c : Nat) (f : Nat → R), c ≠ r → (fun i j => upd A r f (skp c j) (i + 1)) = fun i j => upd (fun i j => A (skp c i) (j + 1)) (usk c r) (fun j => f (j + 1)) j i := by
      intro A r c f hcr
      funext i j
      unfold upd
      by_cases h : j = usk c r
      · subst h
        rw [skp_usk (fun e => hcr e.symm)]; simp
      · rw [if_neg h, if_neg (fun e => h (by rw [← e, usk_skp]))]
    refine ⟨fun e => dt_congr fun i j hi hj => e j i hj hi, ?_, ?_⟩
    · intro A r a b f g hr
      show dt (n + 1) _ = a * dt (n + 1) _ + b * dt (n + 1) _
      rw [dt, dt, dt, ← sumN_lin]
      refine sumN_congr _ fun c hc => ?_
      by_cases e : c = r
      · subst e
        have e1 : ∀ f : Nat → R, (fun i j => upd A c f (skp c j) (i + 1)) = fun i j => A (skp c j) (i + 1) := fun f => by funext i j; rw [upd_other _ _ (skp_ne c j)]
        simp only [upd_same, e1]; grind
      · rw [hmin A r c _ e, hmin A r c _ e, hmin A r c _ e]
        have := ih.lin (fun i j => A (skp c i) (j + 1)) (usk c r) a b (fun j => f (j + 1)) (fun j => g (j + 1)) (by unfold usk; split <;> omega)
        rw [this, upd_other _ _ e, upd_other _ _ e, upd_other _ _ e]
        grind
    · intro A r hr he
      show dt (n + 1) _ = 0
      rw [dt, sumN_two (n + 1) r hr]
      · have e1 : dt n (fun i j => A (skp r j) (i + 1)) = dt n (fun i j => A (skp (r + 1) j) (i + 1)) := by
          refine dt_congr fun i j hi hj => ?_
          by_cases h1 : j = r
          · subst h1
            have a1 : skp j j = j + 1 := by unfold skp; rw [if_neg (by omega)]
            have a2 : skp (j + 1) j = j := by unfold skp; rw [if_pos (by omega)]
            rw [a1, a2]; exact (he _ (by omega)).symm
          · have : skp r j = skp (r + 1) j := by unfold skp; (repeat' split) <;> omega
            rw [this]
        rw [e1, he 0 (by omega), sgN_succ]; grind
      · intro k hk h1 h2
        have := ih.adj (fun i j => A (skp k i) (j + 1)) (usk k r) (by unfold usk; split <;> omega) (fun j hj => by
          have a1 : skp k (usk k r) = r := skp_usk (fun e => h1 e.symm)
          have a2 : skp k (usk k r + 1) = r + 1 := by unfold skp usk; (repeat' split) <;> omega
          rw [a1, a2]; exact he _ (by omega))
        rw [this]; grind
theorem dt_turn (n : Nat) (A : Nat → Nat → R) : dt n (fun i j => A j i) = dt n A := by
  have e := unique (alt_turn n) A
  rw [e]
  have e2 : (fun i j => uni (R := R) j i) = uni := by funext i j; unfold uni; split <;> split <;> first | rfl | omega
  rw [e2, dt_uni]; grind

end Go.Det


/- The polynomial of the mirrored word is the conjugate; that of the letters in the other order is the same. Plain law. -/
import Derived.Test.YtckopilciekfbaaQJonesMirror0
import Derived.Test.YtckopilciekfbaaQJonesMirror1
import Derived.Test.YtckopilciekfbaaQJonesMirror2
import Derived.Test.YtckopilciekfbaaQJonesMirror3
import Derived.Test.YtckopilciekfbaaQJonesMirror4
import Derived.Test.YtckopilciekfbaaQJonesMirror5
import Derived.Test.YtckopilciekfbaaQJonesMirror6
import Derived.Test.YtckopilciekfbaaQJonesMirror7
import Derived.Test.YtckopilciekfbaaQJonesMirror8
import Derived.Test.YtckopilciekfbaaQJonesMirror9
import Derived.Test.YtckopilciekfbaaQJonesMirror10
import Derived.Test.YtckopilciekfbaaQJonesMirror11
import Derived.Test.YtckopilciekfbaaQJonesMirror12
import Derived.Test.YtckopilciekfbaaQJonesMirror13
import Derived.Test.YtckopilciekfbaaQJonesMirror14
import Derived.Test.YtckopilciekfbaaQJonesMirror15
import Derived.Test.YtckopilciekfbaaQJonesMirror16
import Derived.Test.YtckopilciekfbaaQJonesMirror17
import Derived.Test.YtckopilciekfbaaQJonesMirror19
import Derived.Test.YtckopilciekfbaaQJonesMirror20
import Derived.Test.YtckopilciekfbaaQJonesMirror21
import Derived.Test.YtckopilciekfbaaQJonesMirror22
import Derived.Test.YtckopilciekfbaaQJonesMirror23
import Derived.Test.YtckopilciekfbaaQJonesMirror24
import Derived.Test.YtckopilciekfbaaQJonesMirror25
import Derived.Test.YtckopilciekfbaaQJonesMirror26
import Derived.Test.YtckopilciekfbaaQJonesMirror27
import Derived.Test.YtckopilciekfbaaQJonesMirror28
import Derived.Test.YtckopilciekfbaaQJonesMirror30
import Derived.Test.YtckopilciekfbaaQJonesMirror31
import Derived.Test.YtckopilciekfbaaQJonesMirror32
import Derived.Test.YtckopilciekfbaaQJonesMirror33
import Derived.Test.YtckopilciekfbaaQJonesMirror34
import Derived.Test.YtckopilciekfbaaQJonesMirror35
import Derived.Test.YtckopilciekfbaaQJonesMirror36
import Derived.Test.YtckopilciekfbaaQJonesMirror37
import Derived.Deep.RegionLaw
import Derived.RangeFuncNested
import Derived.RangeFuncCalls
import Derived.OrdersIn
import Derived.OrdersHeld
import Derived.Deep.RegionHeld
import Derived.Deep.CutRange
namespace Go.Proofs.Ytckopilciekfbaa
open Go.TL

section
variable {P : List Nat} {N Tr : Nat} {t : Rat}
theorem stepJ_congr {f g : Nat → Rat} (h : ∀ i, i < N → f i = g i) (x : Int) (j : Nat) : stepJ P N t x f j = stepJ P N t x g j := sumQ_congr fun i hi => by rw [h i hi]
theorem wordJ_cons (x : Int) (xs : List Int) (f : Nat → Rat) : wordJ P N t (x :: xs) f = wordJ P N t xs (stepJ P N t x f) := rfl
theorem wordJ_append (xs ys : List Int) (f : Nat → Rat) : wordJ P N t (xs ++ ys) f = wordJ P N t ys (wordJ P N t xs f) := by unfold wordJ; rw [List.foldl_append]
end
theorem sumL_one (x : Int) : sumL [x] = sgnI x := by simp [sumL]
end Go.Proofs.Ytckopilciekfbaa

namespace Go.Proofs.Ytckopilciekfbaa
open Go.TL

structure MF (n N : Nat) (P : List Nat) (Tr : Nat) (F : Nat → Nat) : Prop where
  lt : ∀ i, i < N → F i < N
  inv : ∀ i, i < N → F (F i) = i
  zero : F 0 = 0
  cl : ∀ i, i < N → dg Tr (F i) = dg Tr i
  gen : ∀ i h, i < N → 1 ≤ h → h < n → PT P (F i) h = (F (PT P h i).1, (PT P h i).2)
  ltl : ∀ i h, i < N → 1 ≤ h → h < n → (PT P h i).1 < N
  comm : ∀ i a b, i < N → 1 ≤ a → a < n → 1 ≤ b → b < n → (PT P (PT P a i).1 b).1 = (PT P a (PT P i b).1).1 ∧ (PT P a i).2 + (PT P (PT P a i).1 b).2 = (PT P i b).2 + (PT P a (PT P i b).1).2
  one : ∀ h, 1 ≤ h → h < n → PT P 0 h = (h, 0) ∧ PT P h 0 = (h, 0)

def flipB (n N : Nat) (P : List Nat) (Tr Fl : Nat) : Bool :=
  Nat.beq (dg Fl 0) 0 && allB (fun i => Nat.ble (dg Fl i + 1) N && Nat.beq (dg Fl (dg Fl i)) i && Nat.beq (dg Tr (dg Fl i)) (dg Tr i) && allB (fun h => Nat.beq (pv P (dg Fl i) (h + 1)) (4 * dg Fl (pv P (h + 1) i / 4) + pv P (h + 1) i % 4)) (n - 1)) N
theorem mf_of {n N g : Nat} {P : List Nat} {Tr Fl : Nat} {par gn : Nat → Nat} (hm : MulOK N g par gn (PT P)) (hg : g = n - 1) (hb : flipB n N P Tr Fl = true) : MF n N P Tr (dg Fl) := by
  subst hg
  unfold flipB at hb
  rw [Bool.and_eq_true] at hb
  have B := fun i (hi : i < N) => by
    have := allB_of hb.2 i hi
    simp only [Bool.and_eq_true] at this
    exact this
  have hgN := hm.gN
  refine ⟨fun i hi => Nat.le_of_ble_eq_true (B i hi).1.1.1, fun i hi => Nat.eq_of_beq_eq_true (B i hi).1.1.2, Nat.eq_of_beq_eq_true hb.1, fun i hi => Nat.eq_of_beq_eq_true (B i hi).1.2, fun i h hi h1 h2 => ?_, fun i h hi h1 h2 => hm.lt h i (by omega) hi,
    fun i a b hi a1 a2 b1 b2 => hm.comm i a b hi a1 (by omega) b1 (by omega), fun h h1 h2 => ⟨hm.one h (by omega), hm.eno h (by omega)⟩⟩
  have := Nat.eq_of_beq_eq_true (allB_of (B i hi).2 (h - 1) (by omega))
  rw [show h - 1 + 1 = h by omega] at this
  unfold PT
  rw [this]
  have hlt : pv P h i % 4 < 4 := Nat.mod_lt _ (by decide)
  exact Prod.ext (by simp only; omega) (by simp only; omega)
def mF2 : Nat := 4096
theorem mf2 : MF 2 2 mP2 mT2 (dg mF2) := mf_of mul2 rfl (by decide +kernel)
def mF3 : Nat := 844699841597440
theorem mf3 : MF 3 5 mP3 mT3 (dg mF3) := mf_of mul3 rfl (by decide +kernel)
def mF4 : Nat := 1187670841497949506729951776909027517089080938496
theorem mf4 : MF 4 14 mP4 mT4 (dg mF4) := mf_of mul4 rfl (by decide +kernel)
def mF5 : Nat := 511595301618464583953803091856262533065709533060116490196892210152481011188930431427242131301473668652952911829039945066939098891763395395862501789696
theorem mf5 : MF 5 42 mP5 mT5 (dg mF5) := mf_of mul5 rfl (by decide +kernel)
def mF6 : Nat := 21703375478226258158354021418452635860066635254480267484040730385986349724746323456360542541175269772793322613281232968838821856710927103818708808824348293715942629255233495504331802016843944996427546313352096478275542189766957530445324833959379071712728663567577548572989632914847366190468762382208383885654115754282797693308166984375864405657491787116257519507568155136738300836388704872375628899916949459214259676372371838211108486189788809596377270854441006804428757405696
theorem mf6 : MF 6 132 mP6 mT6 (dg mF6) := mf_of mul6 rfl (by decide +kernel)
theorem mjf_all (n : Nat) (h2 : 2 ≤ n) (h6 : n ≤ 6) : ∃ N S P Tr F, MJ n N S P Tr ∧ MF n N P Tr F := by
  obtain rfl | rfl | rfl | rfl | rfl : n = 2 ∨ n = 3 ∨ n = 4 ∨ n = 5 ∨ n = 6 := by omega
  · exact ⟨_, _, _, _, _, mj2, mf2⟩
  · exact ⟨_, _, _, _, _, mj3, mf3⟩
  · exact ⟨_, _, _, _, _, mj4, mf4⟩
  · exact ⟨_, _, _, _, _, mj5, mf5⟩
  · exact ⟨_, _, _, _, _, mj6, mf6⟩

/-! ### Words in the other order, and words of the other signs -/
section
variable {n N Tr : Nat} {P : List Nat} {S : List (List Nat)} {F : Nat → Nat} {t : Rat}
/-- A letter on the left. -/
def lstepJ (P : List Nat) (N : Nat) (t : Rat) (x : Int) (f : Nat → Rat) (j : Nat) : Rat := sumQ N fun i => f i * ((if j = i then t ^ exJ x 0 else 0) + (if j = (PT P x.natAbs i).1 then t ^ exJ x 1 * dl t ^ (PT P x.natAbs i).2 else 0))
theorem lstepJ_congr {f g : Nat → Rat} (h : ∀ i, i < N → f i = g i) (x : Int) (j : Nat) : lstepJ P N t x f j = lstepJ P N t x g j := sumQ_congr fun i hi => by rw [h i hi]
theorem stepJ_cf (H : MJ n N S P Tr) (x : Int) (f : Nat → Rat) (j : Nat) : stepJ P N t x f j = sumQ N fun i => f i * ((if j = i then t ^ exJ x 0 else 0) + (if j = (PT P i x.natAbs).1 then t ^ exJ x 1 * dl t ^ (PT P i x.natAbs).2 else 0)) := by
  unfold stepJ
  refine sumQ_congr fun i hi => ?_
  unfold cfJ
  simp only [if_true, H.eno i hi, Nat.one_ne_zero, if_false, Rat.pow_zero, Rat.mul_one]
/-- Turned upside down, the left is the right. -/
theorem flip_step (H : MJ n N S P Tr) (G : MF n N P Tr F) {x : Int} (hx : x ≠ 0 ∧ x.natAbs < n) (f : Nat → Rat) (j : Nat) (hj : j < N) : stepJ P N t x (fun i => f (F i)) j = lstepJ P N t x f (F j) := by
  rw [stepJ_cf H, lstepJ]
  have e : ∀ g : Nat → Rat, sumQ N (fun i => g (F i)) = sumQ N g := fun g => by
    have h1 : ∀ i, i < N → g (F i) = sumQ N fun k => if k = F i then g k else 0 := fun i hi => by
      rw [sumQ_one (G.lt i hi) (fun k _ hk => if_neg hk), if_pos rfl]
    rw [sumQ_congr h1, sumQ_swap]
    refine sumQ_congr fun k hk => ?_
    rw [sumQ_one (G.lt k hk) (fun i hi hik => if_neg (fun e => hik (by rw [e, G.inv i hi]))), if_pos (G.inv k hk).symm]
  rw [← e (fun i => f i * ((if F j = i then t ^ exJ x 0 else 0) + (if F j = (PT P x.natAbs i).1 then t ^ exJ x 1 * dl t ^ (PT P x.natAbs i).2 else 0)))]
  refine sumQ_congr fun i hi => ?_
  have hFi := G.lt i hi
  have g1 := G.gen (F i) x.natAbs hFi (by omega) hx.2
  rw [G.inv i hi] at g1
  rw [g1]
  have c1 : (j = i) ↔ (F j = F i) := ⟨fun h => by rw [h], fun h => by rw [← G.inv j hj, h, G.inv i hi]⟩
  have hl := G.ltl (F i) x.natAbs hFi (by omega) hx.2
  have c2 : (j = F (PT P x.natAbs (F i)).1) ↔ (F j = (PT P x.natAbs (F i)).1) := ⟨fun h => by rw [h, G.inv _ hl], fun h => by rw [← h, G.inv j hj]⟩
  simp only [c1, c2]
theorem flip_sum (G : MF n N P Tr F) (f : Nat → Rat) : (sumQ N fun i => f (F i) * dl t ^ (dg Tr i - 1)) = sumQ N fun i => f i * dl t ^ (dg Tr i - 1) := by
  have h1 : ∀ i, i < N → f (F i) * dl t ^ (dg Tr i - 1) = sumQ N fun k => if k = F i then f k * dl t ^ (dg Tr k - 1) else 0 := fun i hi => by
    rw [sumQ_one (G.lt i hi) (fun k _ hk => if_neg hk), if_pos rfl, G.cl i hi]
  rw [sumQ_congr h1, sumQ_swap]
  refine sumQ_congr fun k hk => ?_
  rw [sumQ_one (G.lt k hk) (fun i hi hik => if_neg (fun e => hik (by rw [e, G.inv i hi]))), if_pos (G.inv k hk).symm]
def lwordJ (P : List Nat) (N : Nat) (t : Rat) : List Int → (Nat → Rat) → Nat → Rat
  | [], f => f
  | x :: xs, f => lstepJ P N t x (lwordJ P N t xs f)
theorem lwordJ_snoc (xs : List Int) (x : Int) (f : Nat → Rat) : lwordJ P N t (xs ++ [x]) f = lwordJ P N t xs (lstepJ P N t x f) := by
  induction xs with
  | nil => rfl
  | cons y ys ih => show lstepJ P N t y (lwordJ P N t (ys ++ [x]) f) = lstepJ P N t y (lwordJ P N t ys (lstepJ P N t x f)); rw [ih]
theorem lwordJ_congr : ∀ (xs : List Int) (f g : Nat → Rat), (∀ i, i < N → f i = g i) → ∀ j, j < N → lwordJ P N t xs f j = lwordJ P N t xs g j
  | [], _, _, h, j, hj => h j hj
  | x :: xs, f, g, h, j, _ => lstepJ_congr (fun i hi => lwordJ_congr xs f g h i hi) x j
/-- Left and right are done in any order. -/
theorem step_comm (H : MJ n N S P Tr) (G : MF n N P Tr F) {x y : Int} (hx : x ≠ 0 ∧ x.natAbs < n) (hy : y ≠ 0 ∧ y.natAbs < n) (f : Nat → Rat) (j : Nat) : stepJ P N t x (lstepJ P N t y f) j = lstepJ P N t y (stepJ P N t x f) j := by
  have R : stepJ P N t x (lstepJ P N t y f) j = sumQ N fun i => f i * (t ^ exJ y 0 * ((if j = i then t ^ exJ x 0 else 0) + (if j = (PT P i x.natAbs).1 then t ^ exJ x 1 * dl t ^ (PT P i x.natAbs).2 else 0)) +
      t ^ exJ y 1 * dl t ^ (PT P y.natAbs i).2 * ((if j = (PT P y.natAbs i).1 then t ^ exJ x 0 else 0) + (if j = (PT P (PT P y.natAbs i).1 x.natAbs).1 then t ^ exJ x 1 * dl t ^ (PT P (PT P y.natAbs i).1 x.natAbs).2 else 0))) := by
    rw [stepJ_cf H]
    unfold lstepJ
    rw [sumQ_congr (fun k _ => (Rat.mul_comm _ _).trans (sumQ_mul N _ _).symm), sumQ_swap]
    refine sumQ_congr fun i hi => ?_
    have hl := G.ltl i y.natAbs hi (by omega) hy.2
    rw [sumQ_congr (g := fun k => (if k = i then f i * (t ^ exJ y 0 * ((if j = i then t ^ exJ x 0 else 0) + (if j = (PT P i x.natAbs).1 then t ^ exJ x 1 * dl t ^ (PT P i x.natAbs).2 else 0))) else 0) +
      (if k = (PT P y.natAbs i).1 then f i * (t ^ exJ y 1 * dl t ^ (PT P y.natAbs i).2 * ((if j = (PT P y.natAbs i).1 then t ^ exJ x 0 else 0) + (if j = (PT P (PT P y.natAbs i).1 x.natAbs).1 then t ^ exJ x 1 * dl t ^ (PT P (PT P y.natAbs i).1 x.natAbs).2 else 0))) else 0)) (fun k _ => by
        by_cases e1 : k = i <;> by_cases e2 : k = (PT P y.natAbs i).1
        · rw [if_pos e1, if_pos e2, if_pos e1, if_pos e2, ← e2, e1]; grind
        · rw [if_pos e1, if_neg e2, if_pos e1, if_neg e2, e1]; grind
        · rw [if_neg e1, if_pos e2, if_neg e1, if_pos e2, ← e2]; grind
        · rw [if_neg e1, if_neg e2, if_neg e1, if_neg e2]; grind), sumQ_add, sumQ_one hi (fun k _ hk => if_neg hk), sumQ_one hl (fun k _ hk => if_neg hk), if_pos rfl, if_pos rfl]
    grind
  have L : lstepJ P N t y (stepJ P N t x f) j = sumQ N fun i => f i * (t ^ exJ x 0 * ((if j = i then t ^ exJ y 0 else 0) + (if j = (PT P y.natAbs i).1 then t ^ exJ y 1 * dl t ^ (PT P y.natAbs i).2 else 0)) +
      t ^ exJ x 1 * dl t ^ (PT P i x.natAbs).2 * ((if j = (PT P i x.natAbs).1 then t ^ exJ y 0 else 0) + (if j = (PT P y.natAbs (PT P i x.natAbs).1).1 then t ^ exJ y 1 * dl t ^ (PT P y.natAbs (PT P i x.natAbs).1).2 else 0))) := by
    unfold lstepJ
    rw [sumQ_congr (fun k _ => by rw [stepJ_cf H]), sumQ_congr (fun k _ => (Rat.mul_comm _ _).trans (sumQ_mul N _ _).symm), sumQ_swap]
    refine sumQ_congr fun i hi => ?_
    have hl := H.lt i x.natAbs hi hx.2
    rw [sumQ_congr (g := fun k => (if k = i then f i * (t ^ exJ x 0 * ((if j = i then t ^ exJ y 0 else 0) + (if j = (PT P y.natAbs i).1 then t ^ exJ y 1 * dl t ^ (PT P y.natAbs i).2 else 0))) else 0) +
      (if k = (PT P i x.natAbs).1 then f i * (t ^ exJ x 1 * dl t ^ (PT P i x.natAbs).2 * ((if j = (PT P i x.natAbs).1 then t ^ exJ y 0 else 0) + (if j = (PT P y.natAbs (PT P i x.natAbs).1).1 then t ^ exJ y 1 * dl t ^ (PT P y.natAbs (PT P i x.natAbs).1).2 else 0))) else 0)) (fun k _ => by
        by_cases e1 : k = i <;> by_cases e2 : k = (PT P i x.natAbs).1
        · rw [if_pos e1, if_pos e2, if_pos e1, if_pos e2, ← e2, e1]; grind
        · rw [if_pos e1, if_neg e2, if_pos e1, if_neg e2, e1]; grind
        · rw [if_neg e1, if_pos e2, if_neg e1, if_pos e2, ← e2]; grind
        · rw [if_neg e1, if_neg e2, if_neg e1, if_neg e2]; grind), sumQ_add, sumQ_one hi (fun k _ hk => if_neg hk), sumQ_one hl (fun k _ hk => if_neg hk), if_pos rfl, if_pos rfl]
    grind
  rw [R, L]
  refine sumQ_congr fun i hi => ?_
  obtain ⟨c1, c2⟩ := G.comm i y.natAbs x.natAbs hi (by omega) hy.2 (by omega) hx.2
  rw [c1]
  have c3 : dl t ^ (PT P y.natAbs i).2 * dl t ^ (PT P (PT P y.natAbs i).1 x.natAbs).2 = dl t ^ (PT P i x.natAbs).2 * dl t ^ (PT P y.natAbs (PT P i x.natAbs).1).2 := by rw [← rpow_add, ← rpow_add, c2]
  split <;> split <;> split <;> split <;> grind
end

end Go.Proofs.Ytckopilciekfbaa

namespace Go.Proofs.Ytckopilciekfbaa
open Go.TL

section
variable {n N Tr : Nat} {P : List Nat} {S : List (List Nat)} {F : Nat → Nat} {t : Rat}
theorem step_lword (H : MJ n N S P Tr) (G : MF n N P Tr F) {x : Int} (hx : x ≠ 0 ∧ x.natAbs < n) : ∀ (xs : List Int) (f : Nat → Rat), NWord n xs → ∀ j, j < N → stepJ P N t x (lwordJ P N t xs f) j = lwordJ P N t xs (stepJ P N t x f) j
  | [], _, _, _, _ => rfl
  | y :: ys, f, hw, j, _ => by
    show stepJ P N t x (lstepJ P N t y (lwordJ P N t ys f)) j = lstepJ P N t y (lwordJ P N t ys (stepJ P N t x f)) j
    rw [step_comm H G hx (hw y (by simp))]
    exact lstepJ_congr (fun i hi => step_lword H G hx ys f (fun z hz => hw z (by simp [hz])) i hi) y j
theorem step_unit (H : MJ n N S P Tr) (G : MF n N P Tr F) {x : Int} (hx : x ≠ 0 ∧ x.natAbs < n) (j : Nat) : stepJ P N t x unitJ j = lstepJ P N t x unitJ j := by
  rw [stepJ_cf H]
  unfold lstepJ
  refine sumQ_congr fun i _ => ?_
  by_cases e : i = 0
  · subst e
    obtain ⟨g1, g2⟩ := G.one x.natAbs (by omega) hx.2
    rw [g1, g2]
  · unfold unitJ; rw [if_neg e, Rat.zero_mul, Rat.zero_mul]
theorem word_lword_rev (H : MJ n N S P Tr) (G : MF n N P Tr F) : ∀ ys : List Int, NWord n ys → ∀ j, j < N → wordJ P N t ys.reverse unitJ j = lwordJ P N t ys.reverse unitJ j
  | [], _, _, _ => rfl
  | x :: ys, hw, j, hj => by
    have hx := hw x (by simp)
    have hw' : NWord n ys := fun z hz => hw z (by simp [hz])
    rw [List.reverse_cons, wordJ_append, lwordJ_snoc]
    show stepJ P N t x (wordJ P N t ys.reverse unitJ) j = _
    rw [stepJ_congr (word_lword_rev H G ys hw') x j, step_lword H G hx ys.reverse _ (fun z hz => hw' z (by simpa using hz)) j hj]
    exact lwordJ_congr ys.reverse _ _ (fun i _ => step_unit H G hx i) j hj
theorem word_lword (H : MJ n N S P Tr) (G : MF n N P Tr F) (xs : List Int) (hw : NWord n xs) (j : Nat) (hj : j < N) : wordJ P N t xs unitJ j = lwordJ P N t xs unitJ j := by
  have := word_lword_rev (t := t) H G xs.reverse (fun z hz => hw z (by simpa using hz)) j hj
  rwa [List.reverse_reverse] at this
theorem unit_flip (G : MF n N P Tr F) (j : Nat) (hj : j < N) : unitJ j = unitJ (F j) := by
  unfold unitJ
  by_cases e : j = 0
  · subst e; rw [G.zero]
  · rw [if_neg e, if_neg (fun h => e (by rw [← G.inv j hj, h, G.zero]))]
theorem word_reverse (H : MJ n N S P Tr) (G : MF n N P Tr F) : ∀ (xs : List Int), NWord n xs → ∀ j, j < N → wordJ P N t xs.reverse unitJ j = lwordJ P N t xs unitJ (F j)
  | [], _, j, hj => unit_flip G j hj
  | x :: xs, hw, j, hj => by
    rw [List.reverse_cons, wordJ_append]
    show stepJ P N t x (wordJ P N t xs.reverse unitJ) j = lstepJ P N t x (lwordJ P N t xs unitJ) (F j)
    rw [stepJ_congr (fun i hi => word_reverse H G xs (fun z hz => hw z (by simp [hz])) i hi) x j]
    exact flip_step H G (hw x (by simp)) (lwordJ P N t xs unitJ) j hj
theorem bracket_reverse (H : MJ n N S P Tr) (G : MF n N P Tr F) {xs : List Int} (hw : NWord n xs) : bracketJ P N Tr t xs.reverse = bracketJ P N Tr t xs := by
  unfold bracketJ
  rw [sumQ_congr (g := fun i => (fun k => lwordJ P N t xs unitJ k) (F i) * dl t ^ (dg Tr i - 1)) (fun i hi => by rw [word_reverse H G xs hw i hi]), flip_sum G]
  exact sumQ_congr fun i hi => by rw [word_lword H G xs hw i hi]
theorem sumL_cons (x : Int) (xs : List Int) : sumL (x :: xs) = sgnI x + sumL xs := by
  have := sumL_append [x] xs
  rw [sumL_one] at this
  exact this
theorem sumL_reverse (xs : List Int) : sumL xs.reverse = sumL xs := by
  induction xs with
  | nil => rfl
  | cons x xs ih => have := sumL_cons x xs; rw [List.reverse_cons, sumL_append, sumL_one, ih]; omega
theorem jones_reverse (H : MJ n N S P Tr) (G : MF n N P Tr F) {xs : List Int} (hw : NWord n xs) : jonesV P N Tr t xs.reverse = jonesV P N Tr t xs := by
  unfold jonesV; rw [bracket_reverse H G hw, sumL_reverse]
end

theorem exJ_neg {x : Int} (hx : x ≠ 0) (c : Nat) : exJ (-x) c = -exJ x c := by
  unfold exJ
  by_cases h1 : 0 < x
  · have h2 : ¬ 0 < -x := by omega
    rw [decide_eq_true h1, decide_eq_false h2]
    by_cases hc : c = 0
    · rw [decide_eq_true hc]; decide
    · rw [decide_eq_false hc]; decide
  · have h2 : 0 < -x := by omega
    rw [decide_eq_false h1, decide_eq_true h2]
    by_cases hc : c = 0
    · rw [decide_eq_true hc]; decide
    · rw [decide_eq_false hc]; decide
theorem dl_inv {t : Rat} (ht : t ≠ 0) : dl t⁻¹ = dl t := by
  have p1 : t ^ (1 : Int) = t := by
    have h := Rat.zpow_natCast t 1
    rw [Rat.pow_one] at h
    exact h
  have m1 : t ^ (-1 : Int) = t⁻¹ := by rw [Rat.zpow_neg, p1]
  have m2 : t ^ (-2 : Int) = t⁻¹ * t⁻¹ := by rw [show (-2 : Int) = -1 + -1 by omega, Rat.zpow_add ht, m1]
  have p2 : t ^ (2 : Int) = t * t := by rw [show (2 : Int) = 1 + 1 by omega, Rat.zpow_add ht, p1]
  have h0 : t * t⁻¹ = 1 := Rat.mul_inv_cancel _ ht
  unfold dl
  rw [inv_zpow ht, m2, show (-(-2) : Int) = 2 by omega, p2]
  have q4 : t⁻¹ ^ 4 = t⁻¹ * t⁻¹ * t⁻¹ * t⁻¹ := by grind
  have q4' : t ^ 4 = t * t * t * t := by grind
  rw [q4, q4']
  generalize t⁻¹ = v at h0 ⊢
  grind
section
variable {N Tr : Nat} {P : List Nat} {t : Rat}
theorem stepJ_inv (ht : t ≠ 0) {x : Int} (hx : x ≠ 0) (f : Nat → Rat) : stepJ P N t⁻¹ x f = stepJ P N t (-x) f := by
  funext j
  unfold stepJ cfJ
  refine sumQ_congr fun i _ => ?_
  rw [dl_inv ht, inv_zpow ht, inv_zpow ht, exJ_neg hx, exJ_neg hx, Int.natAbs_neg]
theorem wordJ_inv (ht : t ≠ 0) : ∀ (xs : List Int) (f : Nat → Rat), (∀ x ∈ xs, x ≠ 0) → wordJ P N t⁻¹ xs f = wordJ P N t (xs.map (- ·)) f
  | [], _, _ => rfl
  | x :: xs, f, h => by
    rw [List.map_cons, wordJ_cons, wordJ_cons, stepJ_inv ht (h x (by simp))]
    exact wordJ_inv ht xs _ fun z hz => h z (by simp [hz])
theorem sumL_map_neg : ∀ (xs : List Int), (∀ x ∈ xs, x ≠ 0) → sumL (xs.map (- ·)) = -sumL xs
  | [], _ => rfl
  | x :: xs, h => by
    rw [List.map_cons, sumL_cons, sumL_cons, sumL_map_neg xs fun z hz => h z (by simp [hz])]
    have := h x (by simp)
    unfold sgnI
    split <;> split <;> omega
theorem signJ_neg (s : Int) : signJ (-s) = signJ s := by unfold signJ; split <;> split <;> omega
theorem jones_mirror (ht : t ≠ 0) {xs : List Int} (h : ∀ x ∈ xs, x ≠ 0) : jonesV P N Tr t⁻¹ xs = jonesV P N Tr t (xs.map (- ·)) := by
  unfold jonesV bracketJ
  rw [sumL_map_neg xs h, signJ_neg, inv_zpow ht, wordJ_inv ht xs _ h, dl_inv ht, show -3 * -sumL xs = -(-3 * sumL xs) by omega]
end

end Go.Proofs.Ytckopilciekfbaa


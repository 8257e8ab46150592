/- Moves between closed braids, in plain Lean: what Apply returns. -/
import Derived.Test.YtpnbkoihglppnaaSlices
namespace Go.Proofs.Ytpnbkoihglppnaa

/-- How many letters a local move looks at. -/
def mcnt (k : Nat) : Nat := if k = 1 then 0 else if k = 4 then 3 else 2
/-- What a local move puts in their place, if it can be done. -/
def mnext (xs : List Int) (k j : Nat) (l : Int) : Option (List Int) :=
  if k = 1 then some [l, -l]
  else if k = 2 then (if nth xs j = -nth xs (j + 1) then some [] else none)
  else if k = 3 then (if ((nth xs j).natAbs : Int) - (nth xs (j + 1)).natAbs ≥ 2 ∨ ((nth xs j).natAbs : Int) - (nth xs (j + 1)).natAbs ≤ -2 then some [nth xs (j + 1), nth xs j] else none)
  else if nth xs j = nth xs (j + 2) ∧ (nth xs j > 0 ↔ nth xs (j + 1) > 0) ∧ (nth xs j - nth xs (j + 1) = 1 ∨ nth xs j - nth xs (j + 1) = -1) then some [nth xs (j + 1), nth xs j, nth xs (j + 1)] else none
/-- What local returns: the letters and the error. -/
def mlocal (xs : List Int) (k j : Nat) (l : Int) : List Int × Int :=
  if xs.length < j + mcnt k then ([], 1)
  else match mnext xs k j l with
    | none => ([], 4)
    | some ys => (xs.take j ++ ys ++ xs.drop (j + mcnt k), 0)
/-- Whether the last letter is the only one of the last generator. -/
def mlast (n : Int) (xs : List Int) : Prop := 0 < xs.length ∧ ((nth xs (xs.length - 1)).natAbs : Int) = n - 1 ∧ ∀ j, j < xs.length - 1 → ((nth xs j).natAbs : Int) ≠ n - 1
open Classical in
/-- What perform returns: strands, letters, the error. -/
noncomputable def mperform (n : Int) (xs : List Int) (k j : Nat) (l : Int) : Int × List Int × Int :=
  if k = 5 then (if xs.length = 0 then (0, [], 4) else (n, xs.drop 1 ++ xs.take 1, 0))
  else if k = 6 then (n + 1, xs ++ [l * n], 0)
  else if k = 7 then (if mlast n xs then (n - 1, xs.take (xs.length - 1), 0) else (0, [], 4))
  else (n, mlocal xs k j l)
/-- What Apply returns. -/
noncomputable def mapply (n : Int) (xs : List Int) (k j : Nat) (l : Int) : Int × List Int × Int :=
  if (mperform n xs k j l).2.2 ≠ 0 then (0, [], (mperform n xs k j l).2.2)
  else if 6 < (mperform n xs k j l).1 ∨ 30 < (mperform n xs k j l).2.1.length then (0, [], 2)
  else mperform n xs k j l

theorem exists_least {p : Nat → Prop} : ∀ m : Nat, (∃ k, k < m ∧ p k) → ∃ k, k < m ∧ p k ∧ ∀ j, j < k → ¬ p j := by
  intro m
  induction m with
  | zero => rintro ⟨k, hk, _⟩; omega
  | succ m ih =>
    rintro ⟨k, hk, hp⟩
    by_cases h : ∃ k, k < m ∧ p k
    · obtain ⟨a, ha, hb, hc⟩ := ih h
      exact ⟨a, by omega, hb, hc⟩
    · have hkm : k = m := by
        rcases Nat.lt_or_ge k m with h1 | h1
        · exact absurd ⟨k, h1, hp⟩ h
        · omega
      subst hkm
      exact ⟨k, by omega, hp, fun j hj hpj => h ⟨j, hj, hpj⟩⟩

end Go.Proofs.Ytpnbkoihglppnaa

/- TopRinging: contracts of ringing at n bells, and of the first two loops' laws. -/
import Derived.Test.YtplekfgadbjgdaaQTopRinging0
import Derived.Test.YtplekfgadbjgdaaQTopRinging1
import Derived.Test.YtplekfgadbjgdaaQTopRinging2
import Derived.Test.YtplekfgadbjgdaaQTopRinging3
import Derived.Test.YtplekfgadbjgdaaQTopRinging4
import Derived.Test.YtplekfgadbjgdaaQTopRinging5
import Derived.Test.YtplekfgadbjgdaaQTopRinging6
import Derived.Test.YtplekfgadbjgdaaQTopRinging7
import Derived.Test.YtplekfgadbjgdaaQTopRinging8
import Derived.Test.YtplekfgadbjgdaaQTopRinging9
import Derived.Test.YtplekfgadbjgdaaQTopRinging10
import Derived.Test.YtplekfgadbjgdaaQTopRinging11
import Derived.Test.YtplekfgadbjgdaaQTopRinging12
import Derived.Test.YtplekfgadbjgdaaQTopRinging13
import Derived.Test.YtplekfgadbjgdaaQTopRinging14
import Derived.Test.YtplekfgadbjgdaaQTopRinging15
import Derived.Test.YtplekfgadbjgdaaQTopRinging16
import Derived.Test.YtplekfgadbjgdaaQTopRinging18
import Derived.Test.YtplekfgadbjgdaaQTopRinging19
import Derived.Test.YtplekfgadbjgdaaQTopRinging20
import Derived.Test.YtplekfgadbjgdaaQTopRinging21
import Derived.Test.YtplekfgadbjgdaaQTopRinging22
import Derived.Test.YtplekfgadbjgdaaQTopRinging23
import Derived.Test.YtplekfgadbjgdaaQTopRinging24
import Derived.Test.YtplekfgadbjgdaaQTopRinging25
import Derived.Test.YtplekfgadbjgdaaQTopRinging26
import Derived.Test.YtplekfgadbjgdaaQTopRinging27
import Derived.Test.YtplekfgadbjgdaaQTopRinging28

namespace Go.Proofs.Ytplekfgadbjgdaa
open Go.RowKit Go.Sl

theorem leadHeadN_calls (n : Nat) (v : Value) (cs : List Int) (w : World) (hv : Ints w v cs) (h1 : 1 ≤ n) (h7 : n ≤ 7) (hc : ∀ c ∈ cs, Chg (n - 1) c) (hl : cs.length ≤ 5040) :
    Calls Try.prog 43 #[.int .i64 n, v] w fun e w' => ∃ u, e = .returned (.tuple #[u, .int .i64 0]) ∧ OwnI w' w.heap.size u (runL (iota n) cs) ∧ Below w.heap.size w w' := by
  obtain ⟨m, rfl⟩ : ∃ m, n = m + 1 := ⟨n - 1, by omega⟩
  have h := leadHead_calls m v cs w hv (by omega) hc hl
  rwa [show (m : Int) + 1 = ((m + 1 : Nat) : Int) by omega] at h
theorem changesN_calls (n : Nat) (raw : Value) (zs : List Int) (most : Nat) (w : World) (hr : Ints w raw zs) (hz : ∀ z ∈ zs, I64 z) (h1 : 1 ≤ n) (h7 : n ≤ 7) (hm : most ≤ 1000) :
    Calls Try.prog 44 #[.int .i64 n, raw, .int .i64 most] w fun e w' => ∃ v, e = .returned v ∧ OwnI w' w.heap.size v (changesL n zs most) ∧ Below w.heap.size w w' := by
  obtain ⟨m, rfl⟩ : ∃ m, n = m + 1 := ⟨n - 1, by omega⟩
  have h := changes_calls m raw zs most w hr hz (by omega) hm
  rwa [show (m : Int) + 1 = ((m + 1 : Nat) : Int) by omega] at h
theorem pow_chg {m k : Nat} (hk : k < m) (hm : m < 7) : Chg m ((2 ^ k : Nat) : Int) := by
  refine ⟨2 ^ k, rfl, Nat.pow_lt_pow_right (by decide) hk, ?_, ?_⟩
  · have : (2 : Nat) ^ k < 2 ^ 6 := Nat.pow_lt_pow_right (by decide) (by omega)
    omega
  · obtain rfl | rfl | rfl | rfl | rfl | rfl : k = 0 ∨ k = 1 ∨ k = 2 ∨ k = 3 ∨ k = 4 ∨ k = 5 := by omega
    all_goals decide
theorem pow_cast (k : Nat) : (2 : Int) ^ k = ((2 ^ k : Nat) : Int) := by norm_cast
theorem factN_fact : ∀ n, factN n = fact n
  | 0 => rfl
  | n + 1 => by rw [factN, fact, factN_fact n, Nat.mul_comm]
theorem adjS_take {n k : Nat} (hk : k + 1 < n) : (adjS n).take k ++ [adjT n k] = (adjS n).take (k + 1) := by
  have hl : k < (adjS n).length := by rw [adjS_length]; omega
  rw [List.take_succ_eq_append_getElem hl]
  simp [adjS]
end Go.Proofs.Ytplekfgadbjgdaa


/-
  No cell of these rows narrows 'for every input' (looked for: loops, veiled, ifaces, maps, wideKeys, modest, calm, conditions, laid).
  DERIVED. THE GIVEN ROWS OF THIS SEAT. 13 by the template 'for every input the law returns true; each argument reads behind the call as it read before'; 0 by the template 'total and deterministic' (their statements: YtbopcejelddooaaTotals.lean).
  GIVEN WITH THE SEED: the statements are not yours to turn. If you find one false, say at which input.
  Laid BY PROGRAM, IN A SANDBOX (cutbox-rows.mjs): the forced cells as the released guide's own fill.sh prints them over the translation 4a530c12b3644097… (all of the seat's roots in one cut). By AI agents, Wed Nov 11 2026. No macro, syntax, notation, axiom, sorry.
-/
import Derived.Test.YtbopcejelddooaaChecked
import GoSem.Claim
import GoSem.ClaimJoined
import GoSem.ClaimMapViews
import Derived.JoinedTies
import Derived.KernelRfl
namespace Go.Proofs.Ytbopcejelddooaa
/- THE CELL 'sum', in the pinned program and in every row, IS THE sha256 OF THE DUMP (.gsa) THAT YtbopcejelddooaaProg.lean LOADS. Nothing in Lean hashes anything: it is a label: what it is worth is what the hold of that sum in a sandbox is worth. -/
noncomputable def Try.pinned : Pinned := { name := "ytbopcejelddooaa", sum := "4a530c12b36440976416223297a8cedf32f2a49a4f45f50b268d0f1a7cea2acc", checked := Try.checked }
namespace Rows
def none {H : Type} : Left H := { results := [], args := [] }

/-- 'timbkeep1.MatrixDetTimes': WHATEVER THE INPUT: true; the input reads as it did. -/
def matrixDetTimesSpec : ChangeSpec := { name := "matrixDetTimes", fn := fun _ => fun
  | [d1, d2, d3] => { results := [.lit (.bool true)], args := [d1, d2, d3] }
  | _ => none }
def matrixDetTimesRow : OpenClaim := { program := "ytbopcejelddooaa", sum := "4a530c12b36440976416223297a8cedf32f2a49a4f45f50b268d0f1a7cea2acc", func := "timbrel/timbkeep1.MatrixDetTimes", spec := "matrixDetTimes", recurses := true, apart := false }
def MatrixDetTimesSaid : Prop := matrixDetTimesRow.holds Try.pinned (OpenSpec.ofChange matrixDetTimesSpec)

/-- ITS FALSE NEIGHBOUR: 'it returns false'. Refute it at one input. -/
def matrixDetTimesWrong : ChangeSpec := { name := "matrixDetTimes", fn := fun _ => fun
  | [d1, d2, d3] => { results := [.lit (.bool false)], args := [d1, d2, d3] }
  | _ => none }
def MatrixDetTimesWrongFalsely : Prop := matrixDetTimesRow.holds Try.pinned (OpenSpec.ofChange matrixDetTimesWrong)

/-- 'timbkeep1.MatrixCounts': WHATEVER THE INPUT: true; the input reads as it did. -/
def matrixCountsSpec : ChangeSpec := { name := "matrixCounts", fn := fun _ => fun
  | [d1, d2, d3, d4] => { results := [.lit (.bool true)], args := [d1, d2, d3, d4] }
  | _ => none }
def matrixCountsRow : OpenClaim := { program := "ytbopcejelddooaa", sum := "4a530c12b36440976416223297a8cedf32f2a49a4f45f50b268d0f1a7cea2acc", func := "timbrel/timbkeep1.MatrixCounts", spec := "matrixCounts", recurses := true, apart := false }
def MatrixCountsSaid : Prop := matrixCountsRow.holds Try.pinned (OpenSpec.ofChange matrixCountsSpec)

/-- ITS FALSE NEIGHBOUR: 'it returns false'. Refute it at one input. -/
def matrixCountsWrong : ChangeSpec := { name := "matrixCounts", fn := fun _ => fun
  | [d1, d2, d3, d4] => { results := [.lit (.bool false)], args := [d1, d2, d3, d4] }
  | _ => none }
def MatrixCountsWrongFalsely : Prop := matrixCountsRow.holds Try.pinned (OpenSpec.ofChange matrixCountsWrong)

/-- 'timbkeep1.MatrixTurned': WHATEVER THE INPUT: true; the input reads as it did. -/
def matrixTurnedSpec : ChangeSpec := { name := "matrixTurned", fn := fun _ => fun
  | [d1, d2, d3, d4] => { results := [.lit (.bool true)], args := [d1, d2, d3, d4] }
  | _ => none }
def matrixTurnedRow : OpenClaim := { program := "ytbopcejelddooaa", sum := "4a530c12b36440976416223297a8cedf32f2a49a4f45f50b268d0f1a7cea2acc", func := "timbrel/timbkeep1.MatrixTurned", spec := "matrixTurned", recurses := true, apart := false }
def MatrixTurnedSaid : Prop := matrixTurnedRow.holds Try.pinned (OpenSpec.ofChange matrixTurnedSpec)

/-- ITS FALSE NEIGHBOUR: 'it returns false'. Refute it at one input. -/
def matrixTurnedWrong : ChangeSpec := { name := "matrixTurned", fn := fun _ => fun
  | [d1, d2, d3, d4] => { results := [.lit (.bool false)], args := [d1, d2, d3, d4] }
  | _ => none }
def MatrixTurnedWrongFalsely : Prop := matrixTurnedRow.holds Try.pinned (OpenSpec.ofChange matrixTurnedWrong)

/-- 'timbkeep1.MatrixSmithChain': WHATEVER THE INPUT: true; the input reads as it did. -/
def matrixSmithChainSpec : ChangeSpec := { name := "matrixSmithChain", fn := fun _ => fun
  | [d1, d2, d3, d4, d5] => { results := [.lit (.bool true)], args := [d1, d2, d3, d4, d5] }
  | _ => none }
def matrixSmithChainRow : OpenClaim := { program := "ytbopcejelddooaa", sum := "4a530c12b36440976416223297a8cedf32f2a49a4f45f50b268d0f1a7cea2acc", func := "timbrel/timbkeep1.MatrixSmithChain", spec := "matrixSmithChain", unfollowed := true, recurses := true, apart := false }
def MatrixSmithChainSaid : Prop := matrixSmithChainRow.holds Try.pinned (OpenSpec.ofChange matrixSmithChainSpec)

/-- ITS FALSE NEIGHBOUR: 'it returns false'. Refute it at one input. -/
def matrixSmithChainWrong : ChangeSpec := { name := "matrixSmithChain", fn := fun _ => fun
  | [d1, d2, d3, d4, d5] => { results := [.lit (.bool false)], args := [d1, d2, d3, d4, d5] }
  | _ => none }
def MatrixSmithChainWrongFalsely : Prop := matrixSmithChainRow.holds Try.pinned (OpenSpec.ofChange matrixSmithChainWrong)

/-- 'timbkeep1.FreeGroup': WHATEVER THE INPUT: true; the input reads as it did. -/
def freeGroupSpec : ChangeSpec := { name := "freeGroup", fn := fun _ => fun
  | [d1, d2, d3] => { results := [.lit (.bool true)], args := [d1, d2, d3] }
  | _ => none }
def freeGroupRow : OpenClaim := { program := "ytbopcejelddooaa", sum := "4a530c12b36440976416223297a8cedf32f2a49a4f45f50b268d0f1a7cea2acc", func := "timbrel/timbkeep1.FreeGroup", spec := "freeGroup", unfollowed := true, recurses := true, apart := false }
def FreeGroupSaid : Prop := freeGroupRow.holds Try.pinned (OpenSpec.ofChange freeGroupSpec)

/-- ITS FALSE NEIGHBOUR: 'it returns false'. Refute it at one input. -/
def freeGroupWrong : ChangeSpec := { name := "freeGroup", fn := fun _ => fun
  | [d1, d2, d3] => { results := [.lit (.bool false)], args := [d1, d2, d3] }
  | _ => none }
def FreeGroupWrongFalsely : Prop := freeGroupRow.holds Try.pinned (OpenSpec.ofChange freeGroupWrong)

/-- 'timbkeep1.FreeRoots': WHATEVER THE INPUT: true; the input reads as it did. -/
def freeRootsSpec : ChangeSpec := { name := "freeRoots", fn := fun _ => fun
  | [d1, d2] => { results := [.lit (.bool true)], args := [d1, d2] }
  | _ => none }
def freeRootsRow : OpenClaim := { program := "ytbopcejelddooaa", sum := "4a530c12b36440976416223297a8cedf32f2a49a4f45f50b268d0f1a7cea2acc", func := "timbrel/timbkeep1.FreeRoots", spec := "freeRoots", unfollowed := true, recurses := true, apart := false }
def FreeRootsSaid : Prop := freeRootsRow.holds Try.pinned (OpenSpec.ofChange freeRootsSpec)

/-- ITS FALSE NEIGHBOUR: 'it returns false'. Refute it at one input. -/
def freeRootsWrong : ChangeSpec := { name := "freeRoots", fn := fun _ => fun
  | [d1, d2] => { results := [.lit (.bool false)], args := [d1, d2] }
  | _ => none }
def FreeRootsWrongFalsely : Prop := freeRootsRow.holds Try.pinned (OpenSpec.ofChange freeRootsWrong)

/-- 'timbkeep1.FreeConjugates': WHATEVER THE INPUT: true; the input reads as it did. -/
def freeConjugatesSpec : ChangeSpec := { name := "freeConjugates", fn := fun _ => fun
  | [d1, d2, d3] => { results := [.lit (.bool true)], args := [d1, d2, d3] }
  | _ => none }
def freeConjugatesRow : OpenClaim := { program := "ytbopcejelddooaa", sum := "4a530c12b36440976416223297a8cedf32f2a49a4f45f50b268d0f1a7cea2acc", func := "timbrel/timbkeep1.FreeConjugates", spec := "freeConjugates", unfollowed := true, recurses := true, apart := false }
def FreeConjugatesSaid : Prop := freeConjugatesRow.holds Try.pinned (OpenSpec.ofChange freeConjugatesSpec)

/-- ITS FALSE NEIGHBOUR: 'it returns false'. Refute it at one input. -/
def freeConjugatesWrong : ChangeSpec := { name := "freeConjugates", fn := fun _ => fun
  | [d1, d2, d3] => { results := [.lit (.bool false)], args := [d1, d2, d3] }
  | _ => none }
def FreeConjugatesWrongFalsely : Prop := freeConjugatesRow.holds Try.pinned (OpenSpec.ofChange freeConjugatesWrong)

/-- 'timbkeep1.PermGroup': WHATEVER THE INPUT: true; the input reads as it did. -/
def permGroupSpec : ChangeSpec := { name := "permGroup", fn := fun _ => fun
  | [d1, d2, d3, d4] => { results := [.lit (.bool true)], args := [d1, d2, d3, d4] }
  | _ => none }
def permGroupRow : OpenClaim := { program := "ytbopcejelddooaa", sum := "4a530c12b36440976416223297a8cedf32f2a49a4f45f50b268d0f1a7cea2acc", func := "timbrel/timbkeep1.PermGroup", spec := "permGroup", apart := false }
def PermGroupSaid : Prop := permGroupRow.holds Try.pinned (OpenSpec.ofChange permGroupSpec)

/-- ITS FALSE NEIGHBOUR: 'it returns false'. Refute it at one input. -/
def permGroupWrong : ChangeSpec := { name := "permGroup", fn := fun _ => fun
  | [d1, d2, d3, d4] => { results := [.lit (.bool false)], args := [d1, d2, d3, d4] }
  | _ => none }
def PermGroupWrongFalsely : Prop := permGroupRow.holds Try.pinned (OpenSpec.ofChange permGroupWrong)

/-- 'timbkeep1.PermPowers': WHATEVER THE INPUT: true; the input reads as it did. -/
def permPowersSpec : ChangeSpec := { name := "permPowers", fn := fun _ => fun
  | [d1, d2, d3, d4] => { results := [.lit (.bool true)], args := [d1, d2, d3, d4] }
  | _ => none }
def permPowersRow : OpenClaim := { program := "ytbopcejelddooaa", sum := "4a530c12b36440976416223297a8cedf32f2a49a4f45f50b268d0f1a7cea2acc", func := "timbrel/timbkeep1.PermPowers", spec := "permPowers", apart := false }
def PermPowersSaid : Prop := permPowersRow.holds Try.pinned (OpenSpec.ofChange permPowersSpec)

/-- ITS FALSE NEIGHBOUR: 'it returns false'. Refute it at one input. -/
def permPowersWrong : ChangeSpec := { name := "permPowers", fn := fun _ => fun
  | [d1, d2, d3, d4] => { results := [.lit (.bool false)], args := [d1, d2, d3, d4] }
  | _ => none }
def PermPowersWrongFalsely : Prop := permPowersRow.holds Try.pinned (OpenSpec.ofChange permPowersWrong)

/-- 'timbkeep1.PermNumbers': WHATEVER THE INPUT: true; the input reads as it did. -/
def permNumbersSpec : ChangeSpec := { name := "permNumbers", fn := fun _ => fun
  | [d1, d2, d3] => { results := [.lit (.bool true)], args := [d1, d2, d3] }
  | _ => none }
def permNumbersRow : OpenClaim := { program := "ytbopcejelddooaa", sum := "4a530c12b36440976416223297a8cedf32f2a49a4f45f50b268d0f1a7cea2acc", func := "timbrel/timbkeep1.PermNumbers", spec := "permNumbers", apart := false }
def PermNumbersSaid : Prop := permNumbersRow.holds Try.pinned (OpenSpec.ofChange permNumbersSpec)

/-- ITS FALSE NEIGHBOUR: 'it returns false'. Refute it at one input. -/
def permNumbersWrong : ChangeSpec := { name := "permNumbers", fn := fun _ => fun
  | [d1, d2, d3] => { results := [.lit (.bool false)], args := [d1, d2, d3] }
  | _ => none }
def PermNumbersWrongFalsely : Prop := permNumbersRow.holds Try.pinned (OpenSpec.ofChange permNumbersWrong)

/-- 'timbkeep1.TangleTurns': WHATEVER THE INPUT: true; the input reads as it did. -/
def tangleTurnsSpec : ChangeSpec := { name := "tangleTurns", fn := fun _ => fun
  | [d1, d2, d3, d4] => { results := [.lit (.bool true)], args := [d1, d2, d3, d4] }
  | _ => none }
def tangleTurnsRow : OpenClaim := { program := "ytbopcejelddooaa", sum := "4a530c12b36440976416223297a8cedf32f2a49a4f45f50b268d0f1a7cea2acc", func := "timbrel/timbkeep1.TangleTurns", spec := "tangleTurns", unfollowed := true, recurses := true, apart := false }
def TangleTurnsSaid : Prop := tangleTurnsRow.holds Try.pinned (OpenSpec.ofChange tangleTurnsSpec)

/-- ITS FALSE NEIGHBOUR: 'it returns false'. Refute it at one input. -/
def tangleTurnsWrong : ChangeSpec := { name := "tangleTurns", fn := fun _ => fun
  | [d1, d2, d3, d4] => { results := [.lit (.bool false)], args := [d1, d2, d3, d4] }
  | _ => none }
def TangleTurnsWrongFalsely : Prop := tangleTurnsRow.holds Try.pinned (OpenSpec.ofChange tangleTurnsWrong)

/-- 'timbkeep1.TangleClasses2': WHATEVER THE INPUT: true; the input reads as it did. -/
def tangleClasses2Spec : ChangeSpec := { name := "tangleClasses2", fn := fun _ => fun
  | [d1, d2, d3] => { results := [.lit (.bool true)], args := [d1, d2, d3] }
  | _ => none }
def tangleClasses2Row : OpenClaim := { program := "ytbopcejelddooaa", sum := "4a530c12b36440976416223297a8cedf32f2a49a4f45f50b268d0f1a7cea2acc", func := "timbrel/timbkeep1.TangleClasses2", spec := "tangleClasses2", unfollowed := true, recurses := true, apart := false }
def TangleClasses2Said : Prop := tangleClasses2Row.holds Try.pinned (OpenSpec.ofChange tangleClasses2Spec)

/-- ITS FALSE NEIGHBOUR: 'it returns false'. Refute it at one input. -/
def tangleClasses2Wrong : ChangeSpec := { name := "tangleClasses2", fn := fun _ => fun
  | [d1, d2, d3] => { results := [.lit (.bool false)], args := [d1, d2, d3] }
  | _ => none }
def TangleClasses2WrongFalsely : Prop := tangleClasses2Row.holds Try.pinned (OpenSpec.ofChange tangleClasses2Wrong)

/-- 'timbkeep1.TangleBack': WHATEVER THE INPUT: true; the input reads as it did. -/
def tangleBackSpec : ChangeSpec := { name := "tangleBack", fn := fun _ => fun
  | [d1, d2] => { results := [.lit (.bool true)], args := [d1, d2] }
  | _ => none }
def tangleBackRow : OpenClaim := { program := "ytbopcejelddooaa", sum := "4a530c12b36440976416223297a8cedf32f2a49a4f45f50b268d0f1a7cea2acc", func := "timbrel/timbkeep1.TangleBack", spec := "tangleBack", unfollowed := true, recurses := true, apart := false }
def TangleBackSaid : Prop := tangleBackRow.holds Try.pinned (OpenSpec.ofChange tangleBackSpec)

/-- ITS FALSE NEIGHBOUR: 'it returns false'. Refute it at one input. -/
def tangleBackWrong : ChangeSpec := { name := "tangleBack", fn := fun _ => fun
  | [d1, d2] => { results := [.lit (.bool false)], args := [d1, d2] }
  | _ => none }
def TangleBackWrongFalsely : Prop := tangleBackRow.holds Try.pinned (OpenSpec.ofChange tangleBackWrong)

/- THE SECOND FORM. 'bulk': how many values and letters a reading holds, each counted each time it is reached (what is shared counts as often as it is met; a slice's spare places count too). A statement '..UptoSaid' is the law's where the arguments, and the package variables that the reading takes, are together of bulk at most 1048576: NARROWER than '..Said'. Prove '..Said' where nothing that the law and all that it calls make is longer than what came in: it says more and counts as full. Else prove '..UptoSaid'. A law counts once. -/
mutual
def uptoBulk {H : Type} : DataW H → Nat
  | .lit (.string bytes) => bytes.length + 1
  | .lit _ => 1
  | .nil => 1
  | .ptr d => uptoBulk d + 1
  | .slice elems spare => uptoBulkAll elems + uptoBulkAll spare + 1
  | .agg parts => uptoBulkAll parts + 1
  | .iface _ d => uptoBulk d + 1
  | .map entries => uptoBulkEntries entries + 1
  | .held _ => 1
def uptoBulkAll {H : Type} : List (DataW H) → Nat
  | [] => 0
  | d :: r => uptoBulk d + uptoBulkAll r
def uptoBulkEntries {H : Type} : List (Lit × DataW H) → Nat
  | [] => 0
  | x :: r => uptoBulkEntry x + uptoBulkEntries r
def uptoBulkEntry {H : Type} : Lit × DataW H → Nat
  | (.string bytes, d) => bytes.length + uptoBulk d + 1
  | (_, d) => uptoBulk d + 1
 end
def uptoSmall : (H : Type) → List (DataW H) → Bool := fun _ ds => decide (uptoBulkAll ds ≤ 1048576)
def OpenSpec.upto (s : _root_.Go.ChangeSpec) : _root_.Go.OpenSpec := { _root_.Go.OpenSpec.ofChange s with cond := some uptoSmall }

/-- 'timbkeep1.MatrixDetTimes', WHERE WHAT IT READS IS OF BULK AT MOST 1048576: true; the input reads as it did. -/
def matrixDetTimesUptoRow : OpenClaim := { program := "ytbopcejelddooaa", sum := "4a530c12b36440976416223297a8cedf32f2a49a4f45f50b268d0f1a7cea2acc", func := "timbrel/timbkeep1.MatrixDetTimes", spec := "matrixDetTimes", recurses := true, apart := false, narrowed := true }
def MatrixDetTimesUptoSaid : Prop := matrixDetTimesUptoRow.holds Try.pinned (OpenSpec.upto matrixDetTimesSpec)

/-- 'timbkeep1.MatrixCounts', WHERE WHAT IT READS IS OF BULK AT MOST 1048576: true; the input reads as it did. -/
def matrixCountsUptoRow : OpenClaim := { program := "ytbopcejelddooaa", sum := "4a530c12b36440976416223297a8cedf32f2a49a4f45f50b268d0f1a7cea2acc", func := "timbrel/timbkeep1.MatrixCounts", spec := "matrixCounts", recurses := true, apart := false, narrowed := true }
def MatrixCountsUptoSaid : Prop := matrixCountsUptoRow.holds Try.pinned (OpenSpec.upto matrixCountsSpec)

/-- 'timbkeep1.MatrixTurned', WHERE WHAT IT READS IS OF BULK AT MOST 1048576: true; the input reads as it did. -/
def matrixTurnedUptoRow : OpenClaim := { program := "ytbopcejelddooaa", sum := "4a530c12b36440976416223297a8cedf32f2a49a4f45f50b268d0f1a7cea2acc", func := "timbrel/timbkeep1.MatrixTurned", spec := "matrixTurned", recurses := true, apart := false, narrowed := true }
def MatrixTurnedUptoSaid : Prop := matrixTurnedUptoRow.holds Try.pinned (OpenSpec.upto matrixTurnedSpec)

/-- 'timbkeep1.MatrixSmithChain', WHERE WHAT IT READS IS OF BULK AT MOST 1048576: true; the input reads as it did. -/
def matrixSmithChainUptoRow : OpenClaim := { program := "ytbopcejelddooaa", sum := "4a530c12b36440976416223297a8cedf32f2a49a4f45f50b268d0f1a7cea2acc", func := "timbrel/timbkeep1.MatrixSmithChain", spec := "matrixSmithChain", unfollowed := true, recurses := true, apart := false, narrowed := true }
def MatrixSmithChainUptoSaid : Prop := matrixSmithChainUptoRow.holds Try.pinned (OpenSpec.upto matrixSmithChainSpec)

/-- 'timbkeep1.FreeGroup', WHERE WHAT IT READS IS OF BULK AT MOST 1048576: true; the input reads as it did. -/
def freeGroupUptoRow : OpenClaim := { program := "ytbopcejelddooaa", sum := "4a530c12b36440976416223297a8cedf32f2a49a4f45f50b268d0f1a7cea2acc", func := "timbrel/timbkeep1.FreeGroup", spec := "freeGroup", unfollowed := true, recurses := true, apart := false, narrowed := true }
def FreeGroupUptoSaid : Prop := freeGroupUptoRow.holds Try.pinned (OpenSpec.upto freeGroupSpec)

/-- 'timbkeep1.FreeRoots', WHERE WHAT IT READS IS OF BULK AT MOST 1048576: true; the input reads as it did. -/
def freeRootsUptoRow : OpenClaim := { program := "ytbopcejelddooaa", sum := "4a530c12b36440976416223297a8cedf32f2a49a4f45f50b268d0f1a7cea2acc", func := "timbrel/timbkeep1.FreeRoots", spec := "freeRoots", unfollowed := true, recurses := true, apart := false, narrowed := true }
def FreeRootsUptoSaid : Prop := freeRootsUptoRow.holds Try.pinned (OpenSpec.upto freeRootsSpec)

/-- 'timbkeep1.FreeConjugates', WHERE WHAT IT READS IS OF BULK AT MOST 1048576: true; the input reads as it did. -/
def freeConjugatesUptoRow : OpenClaim := { program := "ytbopcejelddooaa", sum := "4a530c12b36440976416223297a8cedf32f2a49a4f45f50b268d0f1a7cea2acc", func := "timbrel/timbkeep1.FreeConjugates", spec := "freeConjugates", unfollowed := true, recurses := true, apart := false, narrowed := true }
def FreeConjugatesUptoSaid : Prop := freeConjugatesUptoRow.holds Try.pinned (OpenSpec.upto freeConjugatesSpec)

/-- 'timbkeep1.PermGroup', WHERE WHAT IT READS IS OF BULK AT MOST 1048576: true; the input reads as it did. -/
def permGroupUptoRow : OpenClaim := { program := "ytbopcejelddooaa", sum := "4a530c12b36440976416223297a8cedf32f2a49a4f45f50b268d0f1a7cea2acc", func := "timbrel/timbkeep1.PermGroup", spec := "permGroup", apart := false, narrowed := true }
def PermGroupUptoSaid : Prop := permGroupUptoRow.holds Try.pinned (OpenSpec.upto permGroupSpec)

/-- 'timbkeep1.PermPowers', WHERE WHAT IT READS IS OF BULK AT MOST 1048576: true; the input reads as it did. -/
def permPowersUptoRow : OpenClaim := { program := "ytbopcejelddooaa", sum := "4a530c12b36440976416223297a8cedf32f2a49a4f45f50b268d0f1a7cea2acc", func := "timbrel/timbkeep1.PermPowers", spec := "permPowers", apart := false, narrowed := true }
def PermPowersUptoSaid : Prop := permPowersUptoRow.holds Try.pinned (OpenSpec.upto permPowersSpec)

/-- 'timbkeep1.PermNumbers', WHERE WHAT IT READS IS OF BULK AT MOST 1048576: true; the input reads as it did. -/
def permNumbersUptoRow : OpenClaim := { program := "ytbopcejelddooaa", sum := "4a530c12b36440976416223297a8cedf32f2a49a4f45f50b268d0f1a7cea2acc", func := "timbrel/timbkeep1.PermNumbers", spec := "permNumbers", apart := false, narrowed := true }
def PermNumbersUptoSaid : Prop := permNumbersUptoRow.holds Try.pinned (OpenSpec.upto permNumbersSpec)

/-- 'timbkeep1.TangleTurns', WHERE WHAT IT READS IS OF BULK AT MOST 1048576: true; the input reads as it did. -/
def tangleTurnsUptoRow : OpenClaim := { program := "ytbopcejelddooaa", sum := "4a530c12b36440976416223297a8cedf32f2a49a4f45f50b268d0f1a7cea2acc", func := "timbrel/timbkeep1.TangleTurns", spec := "tangleTurns", unfollowed := true, recurses := true, apart := false, narrowed := true }
def TangleTurnsUptoSaid : Prop := tangleTurnsUptoRow.holds Try.pinned (OpenSpec.upto tangleTurnsSpec)

/-- 'timbkeep1.TangleClasses2', WHERE WHAT IT READS IS OF BULK AT MOST 1048576: true; the input reads as it did. -/
def tangleClasses2UptoRow : OpenClaim := { program := "ytbopcejelddooaa", sum := "4a530c12b36440976416223297a8cedf32f2a49a4f45f50b268d0f1a7cea2acc", func := "timbrel/timbkeep1.TangleClasses2", spec := "tangleClasses2", unfollowed := true, recurses := true, apart := false, narrowed := true }
def TangleClasses2UptoSaid : Prop := tangleClasses2UptoRow.holds Try.pinned (OpenSpec.upto tangleClasses2Spec)

/-- 'timbkeep1.TangleBack', WHERE WHAT IT READS IS OF BULK AT MOST 1048576: true; the input reads as it did. -/
def tangleBackUptoRow : OpenClaim := { program := "ytbopcejelddooaa", sum := "4a530c12b36440976416223297a8cedf32f2a49a4f45f50b268d0f1a7cea2acc", func := "timbrel/timbkeep1.TangleBack", spec := "tangleBack", unfollowed := true, recurses := true, apart := false, narrowed := true }
def TangleBackUptoSaid : Prop := tangleBackUptoRow.holds Try.pinned (OpenSpec.upto tangleBackSpec)

end Rows
end Go.Proofs.Ytbopcejelddooaa

/-
  No cell of these rows narrows 'for every input' (looked for: loops, veiled, ifaces, maps, wideKeys, modest, calm, conditions, laid).
  DERIVED. THE GIVEN ROWS OF THIS SEAT. 13 by the template 'for every input the law returns true; each argument reads behind the call as it read before'; 0 by the template 'total and deterministic' (their statements: YtpnbkoihglppnaaTotals.lean).
  GIVEN WITH THE SEED: the statements are not yours to turn. If you find one false, say at which input.
  Laid BY PROGRAM, IN A SANDBOX (cutbox-rows.mjs): the forced cells as the released guide's own fill.sh prints them over the translation 9b8dfc6ede31ab60… (all of the seat's roots in one cut). By AI agents, Wed Nov 11 2026. No macro, syntax, notation, axiom, sorry.
-/
import Derived.Test.YtpnbkoihglppnaaChecked
import GoSem.Claim
import GoSem.ClaimJoined
import GoSem.ClaimMapViews
import Derived.JoinedTies
import Derived.KernelRfl
namespace Go.Proofs.Ytpnbkoihglppnaa
/- THE CELL 'sum', in the pinned program and in every row, IS THE sha256 OF THE DUMP (.gsa) THAT YtpnbkoihglppnaaProg.lean LOADS. Nothing in Lean hashes anything: it is a label: what it is worth is what the hold of that sum in a sandbox is worth. -/
noncomputable def Try.pinned : Pinned := { name := "ytpnbkoihglppnaa", sum := "9b8dfc6ede31ab604f30baf1225d42b0456268d3a09059daa652f0b635f5a1cc", checked := Try.checked }
namespace Rows
def none {H : Type} : Left H := { results := [], args := [] }

/-- 'timbkeep1.ColorLetters': WHATEVER THE INPUT: true; the input reads as it did. -/
def colorLettersSpec : ChangeSpec := { name := "colorLetters", fn := fun _ => fun
  | [d1, d2, d3, d4, d5] => { results := [.lit (.bool true)], args := [d1, d2, d3, d4, d5] }
  | _ => none }
def colorLettersRow : OpenClaim := { program := "ytpnbkoihglppnaa", sum := "9b8dfc6ede31ab604f30baf1225d42b0456268d3a09059daa652f0b635f5a1cc", func := "timbrel/timbkeep1.ColorLetters", spec := "colorLetters", unfollowed := true, recurses := true, apart := false }
def ColorLettersSaid : Prop := colorLettersRow.holds Try.pinned (OpenSpec.ofChange colorLettersSpec)

/-- ITS FALSE NEIGHBOUR: 'it returns false'. Refute it at one input. -/
def colorLettersWrong : ChangeSpec := { name := "colorLetters", fn := fun _ => fun
  | [d1, d2, d3, d4, d5] => { results := [.lit (.bool false)], args := [d1, d2, d3, d4, d5] }
  | _ => none }
def ColorLettersWrongFalsely : Prop := colorLettersRow.holds Try.pinned (OpenSpec.ofChange colorLettersWrong)

/-- 'timbkeep1.RingOwn': WHATEVER THE INPUT: true; the input reads as it did. -/
def ringOwnSpec : ChangeSpec := { name := "ringOwn", fn := fun _ => fun
  | [d1, d2] => { results := [.lit (.bool true)], args := [d1, d2] }
  | _ => none }
def ringOwnRow : OpenClaim := { program := "ytpnbkoihglppnaa", sum := "9b8dfc6ede31ab604f30baf1225d42b0456268d3a09059daa652f0b635f5a1cc", func := "timbrel/timbkeep1.RingOwn", spec := "ringOwn", inPlace := ["internal/abi.NoEscape"], unfollowed := true, recurses := true, apart := false }
def RingOwnSaid : Prop := ringOwnRow.holds Try.pinned (OpenSpec.ofChange ringOwnSpec)

/-- ITS FALSE NEIGHBOUR: 'it returns false'. Refute it at one input. -/
def ringOwnWrong : ChangeSpec := { name := "ringOwn", fn := fun _ => fun
  | [d1, d2] => { results := [.lit (.bool false)], args := [d1, d2] }
  | _ => none }
def RingOwnWrongFalsely : Prop := ringOwnRow.holds Try.pinned (OpenSpec.ofChange ringOwnWrong)

/-- 'timbkeep1.RingHeads': WHATEVER THE INPUT: true; the input reads as it did. -/
def ringHeadsSpec : ChangeSpec := { name := "ringHeads", fn := fun _ => fun
  | [d1, d2, d3] => { results := [.lit (.bool true)], args := [d1, d2, d3] }
  | _ => none }
def ringHeadsRow : OpenClaim := { program := "ytpnbkoihglppnaa", sum := "9b8dfc6ede31ab604f30baf1225d42b0456268d3a09059daa652f0b635f5a1cc", func := "timbrel/timbkeep1.RingHeads", spec := "ringHeads", inPlace := ["internal/abi.NoEscape"], unfollowed := true, recurses := true, apart := false }
def RingHeadsSaid : Prop := ringHeadsRow.holds Try.pinned (OpenSpec.ofChange ringHeadsSpec)

/-- ITS FALSE NEIGHBOUR: 'it returns false'. Refute it at one input. -/
def ringHeadsWrong : ChangeSpec := { name := "ringHeads", fn := fun _ => fun
  | [d1, d2, d3] => { results := [.lit (.bool false)], args := [d1, d2, d3] }
  | _ => none }
def RingHeadsWrongFalsely : Prop := ringHeadsRow.holds Try.pinned (OpenSpec.ofChange ringHeadsWrong)

/-- 'timbkeep1.RingRounds': WHATEVER THE INPUT: true; the input reads as it did. -/
def ringRoundsSpec : ChangeSpec := { name := "ringRounds", fn := fun _ => fun
  | [d1, d2] => { results := [.lit (.bool true)], args := [d1, d2] }
  | _ => none }
def ringRoundsRow : OpenClaim := { program := "ytpnbkoihglppnaa", sum := "9b8dfc6ede31ab604f30baf1225d42b0456268d3a09059daa652f0b635f5a1cc", func := "timbrel/timbkeep1.RingRounds", spec := "ringRounds", inPlace := ["internal/abi.NoEscape"], unfollowed := true, recurses := true, apart := false }
def RingRoundsSaid : Prop := ringRoundsRow.holds Try.pinned (OpenSpec.ofChange ringRoundsSpec)

/-- ITS FALSE NEIGHBOUR: 'it returns false'. Refute it at one input. -/
def ringRoundsWrong : ChangeSpec := { name := "ringRounds", fn := fun _ => fun
  | [d1, d2] => { results := [.lit (.bool false)], args := [d1, d2] }
  | _ => none }
def RingRoundsWrongFalsely : Prop := ringRoundsRow.holds Try.pinned (OpenSpec.ofChange ringRoundsWrong)

/-- 'timbkeep1.RingNotation': WHATEVER THE INPUT: true; the input reads as it did. -/
def ringNotationSpec : ChangeSpec := { name := "ringNotation", fn := fun _ => fun
  | [d1, d2, d3] => { results := [.lit (.bool true)], args := [d1, d2, d3] }
  | _ => none }
def ringNotationRow : OpenClaim := { program := "ytpnbkoihglppnaa", sum := "9b8dfc6ede31ab604f30baf1225d42b0456268d3a09059daa652f0b635f5a1cc", func := "timbrel/timbkeep1.RingNotation", spec := "ringNotation", inPlace := ["internal/abi.NoEscape", "internal/bytealg.IndexByteString"], unfollowed := true, recurses := true, apart := false }
def RingNotationSaid : Prop := ringNotationRow.holds Try.pinned (OpenSpec.ofChange ringNotationSpec)

/-- ITS FALSE NEIGHBOUR: 'it returns false'. Refute it at one input. -/
def ringNotationWrong : ChangeSpec := { name := "ringNotation", fn := fun _ => fun
  | [d1, d2, d3] => { results := [.lit (.bool false)], args := [d1, d2, d3] }
  | _ => none }
def RingNotationWrongFalsely : Prop := ringNotationRow.holds Try.pinned (OpenSpec.ofChange ringNotationWrong)

/-- 'timbkeep1.MatchingRelations': WHATEVER THE INPUT: true; the input reads as it did. -/
def matchingRelationsSpec : ChangeSpec := { name := "matchingRelations", fn := fun _ => fun
  | [d1, d2, d3] => { results := [.lit (.bool true)], args := [d1, d2, d3] }
  | _ => none }
def matchingRelationsRow : OpenClaim := { program := "ytpnbkoihglppnaa", sum := "9b8dfc6ede31ab604f30baf1225d42b0456268d3a09059daa652f0b635f5a1cc", func := "timbrel/timbkeep1.MatchingRelations", spec := "matchingRelations", unfollowed := true, recurses := true, apart := false }
def MatchingRelationsSaid : Prop := matchingRelationsRow.holds Try.pinned (OpenSpec.ofChange matchingRelationsSpec)

/-- ITS FALSE NEIGHBOUR: 'it returns false'. Refute it at one input. -/
def matchingRelationsWrong : ChangeSpec := { name := "matchingRelations", fn := fun _ => fun
  | [d1, d2, d3] => { results := [.lit (.bool false)], args := [d1, d2, d3] }
  | _ => none }
def MatchingRelationsWrongFalsely : Prop := matchingRelationsRow.holds Try.pinned (OpenSpec.ofChange matchingRelationsWrong)

/-- 'timbkeep1.MatchingStacks': WHATEVER THE INPUT: true; the input reads as it did. -/
def matchingStacksSpec : ChangeSpec := { name := "matchingStacks", fn := fun _ => fun
  | [d1, d2, d3, d4] => { results := [.lit (.bool true)], args := [d1, d2, d3, d4] }
  | _ => none }
def matchingStacksRow : OpenClaim := { program := "ytpnbkoihglppnaa", sum := "9b8dfc6ede31ab604f30baf1225d42b0456268d3a09059daa652f0b635f5a1cc", func := "timbrel/timbkeep1.MatchingStacks", spec := "matchingStacks", unfollowed := true, recurses := true, apart := false }
def MatchingStacksSaid : Prop := matchingStacksRow.holds Try.pinned (OpenSpec.ofChange matchingStacksSpec)

/-- ITS FALSE NEIGHBOUR: 'it returns false'. Refute it at one input. -/
def matchingStacksWrong : ChangeSpec := { name := "matchingStacks", fn := fun _ => fun
  | [d1, d2, d3, d4] => { results := [.lit (.bool false)], args := [d1, d2, d3, d4] }
  | _ => none }
def MatchingStacksWrongFalsely : Prop := matchingStacksRow.holds Try.pinned (OpenSpec.ofChange matchingStacksWrong)

/-- 'timbkeep1.MarkovOwn': WHATEVER THE INPUT: true; the input reads as it did. -/
def markovOwnSpec : ChangeSpec := { name := "markovOwn", fn := fun _ => fun
  | [d1, d2, d3, d4, d5] => { results := [.lit (.bool true)], args := [d1, d2, d3, d4, d5] }
  | _ => none }
def markovOwnRow : OpenClaim := { program := "ytpnbkoihglppnaa", sum := "9b8dfc6ede31ab604f30baf1225d42b0456268d3a09059daa652f0b635f5a1cc", func := "timbrel/timbkeep1.MarkovOwn", spec := "markovOwn", unfollowed := true, recurses := true, apart := false }
def MarkovOwnSaid : Prop := markovOwnRow.holds Try.pinned (OpenSpec.ofChange markovOwnSpec)

/-- ITS FALSE NEIGHBOUR: 'it returns false'. Refute it at one input. -/
def markovOwnWrong : ChangeSpec := { name := "markovOwn", fn := fun _ => fun
  | [d1, d2, d3, d4, d5] => { results := [.lit (.bool false)], args := [d1, d2, d3, d4, d5] }
  | _ => none }
def MarkovOwnWrongFalsely : Prop := markovOwnRow.holds Try.pinned (OpenSpec.ofChange markovOwnWrong)

/-- 'timbkeep1.PermPowers': WHATEVER THE INPUT: true; the input reads as it did. -/
def permPowersSpec : ChangeSpec := { name := "permPowers", fn := fun _ => fun
  | [d1, d2, d3, d4] => { results := [.lit (.bool true)], args := [d1, d2, d3, d4] }
  | _ => none }
def permPowersRow : OpenClaim := { program := "ytpnbkoihglppnaa", sum := "9b8dfc6ede31ab604f30baf1225d42b0456268d3a09059daa652f0b635f5a1cc", func := "timbrel/timbkeep1.PermPowers", spec := "permPowers", apart := false }
def PermPowersSaid : Prop := permPowersRow.holds Try.pinned (OpenSpec.ofChange permPowersSpec)

/-- ITS FALSE NEIGHBOUR: 'it returns false'. Refute it at one input. -/
def permPowersWrong : ChangeSpec := { name := "permPowers", fn := fun _ => fun
  | [d1, d2, d3, d4] => { results := [.lit (.bool false)], args := [d1, d2, d3, d4] }
  | _ => none }
def PermPowersWrongFalsely : Prop := permPowersRow.holds Try.pinned (OpenSpec.ofChange permPowersWrong)

/-- 'timbkeep1.TangleBack': WHATEVER THE INPUT: true; the input reads as it did. -/
def tangleBackSpec : ChangeSpec := { name := "tangleBack", fn := fun _ => fun
  | [d1, d2] => { results := [.lit (.bool true)], args := [d1, d2] }
  | _ => none }
def tangleBackRow : OpenClaim := { program := "ytpnbkoihglppnaa", sum := "9b8dfc6ede31ab604f30baf1225d42b0456268d3a09059daa652f0b635f5a1cc", func := "timbrel/timbkeep1.TangleBack", spec := "tangleBack", unfollowed := true, recurses := true, apart := false }
def TangleBackSaid : Prop := tangleBackRow.holds Try.pinned (OpenSpec.ofChange tangleBackSpec)

/-- ITS FALSE NEIGHBOUR: 'it returns false'. Refute it at one input. -/
def tangleBackWrong : ChangeSpec := { name := "tangleBack", fn := fun _ => fun
  | [d1, d2] => { results := [.lit (.bool false)], args := [d1, d2] }
  | _ => none }
def TangleBackWrongFalsely : Prop := tangleBackRow.holds Try.pinned (OpenSpec.ofChange tangleBackWrong)

/-- 'timbkeep1.FreeRoots': WHATEVER THE INPUT: true; the input reads as it did. -/
def freeRootsSpec : ChangeSpec := { name := "freeRoots", fn := fun _ => fun
  | [d1, d2] => { results := [.lit (.bool true)], args := [d1, d2] }
  | _ => none }
def freeRootsRow : OpenClaim := { program := "ytpnbkoihglppnaa", sum := "9b8dfc6ede31ab604f30baf1225d42b0456268d3a09059daa652f0b635f5a1cc", func := "timbrel/timbkeep1.FreeRoots", spec := "freeRoots", unfollowed := true, recurses := true, apart := false }
def FreeRootsSaid : Prop := freeRootsRow.holds Try.pinned (OpenSpec.ofChange freeRootsSpec)

/-- ITS FALSE NEIGHBOUR: 'it returns false'. Refute it at one input. -/
def freeRootsWrong : ChangeSpec := { name := "freeRoots", fn := fun _ => fun
  | [d1, d2] => { results := [.lit (.bool false)], args := [d1, d2] }
  | _ => none }
def FreeRootsWrongFalsely : Prop := freeRootsRow.holds Try.pinned (OpenSpec.ofChange freeRootsWrong)

/-- 'timbkeep1.FreeConjugates': WHATEVER THE INPUT: true; the input reads as it did. -/
def freeConjugatesSpec : ChangeSpec := { name := "freeConjugates", fn := fun _ => fun
  | [d1, d2, d3] => { results := [.lit (.bool true)], args := [d1, d2, d3] }
  | _ => none }
def freeConjugatesRow : OpenClaim := { program := "ytpnbkoihglppnaa", sum := "9b8dfc6ede31ab604f30baf1225d42b0456268d3a09059daa652f0b635f5a1cc", func := "timbrel/timbkeep1.FreeConjugates", spec := "freeConjugates", unfollowed := true, recurses := true, apart := false }
def FreeConjugatesSaid : Prop := freeConjugatesRow.holds Try.pinned (OpenSpec.ofChange freeConjugatesSpec)

/-- ITS FALSE NEIGHBOUR: 'it returns false'. Refute it at one input. -/
def freeConjugatesWrong : ChangeSpec := { name := "freeConjugates", fn := fun _ => fun
  | [d1, d2, d3] => { results := [.lit (.bool false)], args := [d1, d2, d3] }
  | _ => none }
def FreeConjugatesWrongFalsely : Prop := freeConjugatesRow.holds Try.pinned (OpenSpec.ofChange freeConjugatesWrong)

/-- 'timbkeep1.RingExtents': WHATEVER THE INPUT: true; the input reads as it did. -/
def ringExtentsSpec : ChangeSpec := { name := "ringExtents", fn := fun _ => fun
  | [d] => { results := [.lit (.bool true)], args := [d] }
  | _ => none }
def ringExtentsRow : OpenClaim := { program := "ytpnbkoihglppnaa", sum := "9b8dfc6ede31ab604f30baf1225d42b0456268d3a09059daa652f0b635f5a1cc", func := "timbrel/timbkeep1.RingExtents", spec := "ringExtents", inPlace := ["internal/abi.NoEscape"], unfollowed := true, recurses := true, apart := false }
def RingExtentsSaid : Prop := ringExtentsRow.holds Try.pinned (OpenSpec.ofChange ringExtentsSpec)

/-- ITS FALSE NEIGHBOUR: 'it returns false'. Refute it at one input. -/
def ringExtentsWrong : ChangeSpec := { name := "ringExtents", fn := fun _ => fun
  | [d] => { results := [.lit (.bool false)], args := [d] }
  | _ => none }
def RingExtentsWrongFalsely : Prop := ringExtentsRow.holds Try.pinned (OpenSpec.ofChange ringExtentsWrong)

/- THE SECOND FORM. 'bulk': how many values and letters a reading holds, each counted each time it is reached (what is shared counts as often as it is met; a slice's spare places count too). A statement '..UptoSaid' is the law's where the arguments, and the package variables that the reading takes, are together of bulk at most 1048576: NARROWER than '..Said'. Prove '..Said' where nothing that the law and all that it calls make is longer than what came in: it says more and counts as full. Else prove '..UptoSaid'. A law counts once. -/
mutual
def uptoBulk {H : Type} : DataW H → Nat
  | .lit (.string bytes) => bytes.length + 1
  | .lit _ => 1
  | .nil => 1
  | .ptr d => uptoBulk d + 1
  | .slice elems spare => uptoBulkAll elems + uptoBulkAll spare + 1
  | .agg parts => uptoBulkAll parts + 1
  | .iface _ d => uptoBulk d + 1
  | .map entries => uptoBulkEntries entries + 1
  | .held _ => 1
def uptoBulkAll {H : Type} : List (DataW H) → Nat
  | [] => 0
  | d :: r => uptoBulk d + uptoBulkAll r
def uptoBulkEntries {H : Type} : List (Lit × DataW H) → Nat
  | [] => 0
  | x :: r => uptoBulkEntry x + uptoBulkEntries r
def uptoBulkEntry {H : Type} : Lit × DataW H → Nat
  | (.string bytes, d) => bytes.length + uptoBulk d + 1
  | (_, d) => uptoBulk d + 1
 end
def uptoSmall : (H : Type) → List (DataW H) → Bool := fun _ ds => decide (uptoBulkAll ds ≤ 1048576)
def OpenSpec.upto (s : _root_.Go.ChangeSpec) : _root_.Go.OpenSpec := { _root_.Go.OpenSpec.ofChange s with cond := some uptoSmall }

/-- 'timbkeep1.ColorLetters', WHERE WHAT IT READS IS OF BULK AT MOST 1048576: true; the input reads as it did. -/
def colorLettersUptoRow : OpenClaim := { program := "ytpnbkoihglppnaa", sum := "9b8dfc6ede31ab604f30baf1225d42b0456268d3a09059daa652f0b635f5a1cc", func := "timbrel/timbkeep1.ColorLetters", spec := "colorLetters", unfollowed := true, recurses := true, apart := false, narrowed := true }
def ColorLettersUptoSaid : Prop := colorLettersUptoRow.holds Try.pinned (OpenSpec.upto colorLettersSpec)

/-- 'timbkeep1.RingOwn', WHERE WHAT IT READS IS OF BULK AT MOST 1048576: true; the input reads as it did. -/
def ringOwnUptoRow : OpenClaim := { program := "ytpnbkoihglppnaa", sum := "9b8dfc6ede31ab604f30baf1225d42b0456268d3a09059daa652f0b635f5a1cc", func := "timbrel/timbkeep1.RingOwn", spec := "ringOwn", inPlace := ["internal/abi.NoEscape"], unfollowed := true, recurses := true, apart := false, narrowed := true }
def RingOwnUptoSaid : Prop := ringOwnUptoRow.holds Try.pinned (OpenSpec.upto ringOwnSpec)

/-- 'timbkeep1.RingHeads', WHERE WHAT IT READS IS OF BULK AT MOST 1048576: true; the input reads as it did. -/
def ringHeadsUptoRow : OpenClaim := { program := "ytpnbkoihglppnaa", sum := "9b8dfc6ede31ab604f30baf1225d42b0456268d3a09059daa652f0b635f5a1cc", func := "timbrel/timbkeep1.RingHeads", spec := "ringHeads", inPlace := ["internal/abi.NoEscape"], unfollowed := true, recurses := true, apart := false, narrowed := true }
def RingHeadsUptoSaid : Prop := ringHeadsUptoRow.holds Try.pinned (OpenSpec.upto ringHeadsSpec)

/-- 'timbkeep1.RingRounds', WHERE WHAT IT READS IS OF BULK AT MOST 1048576: true; the input reads as it did. -/
def ringRoundsUptoRow : OpenClaim := { program := "ytpnbkoihglppnaa", sum := "9b8dfc6ede31ab604f30baf1225d42b0456268d3a09059daa652f0b635f5a1cc", func := "timbrel/timbkeep1.RingRounds", spec := "ringRounds", inPlace := ["internal/abi.NoEscape"], unfollowed := true, recurses := true, apart := false, narrowed := true }
def RingRoundsUptoSaid : Prop := ringRoundsUptoRow.holds Try.pinned (OpenSpec.upto ringRoundsSpec)

/-- 'timbkeep1.RingNotation', WHERE WHAT IT READS IS OF BULK AT MOST 1048576: true; the input reads as it did. -/
def ringNotationUptoRow : OpenClaim := { program := "ytpnbkoihglppnaa", sum := "9b8dfc6ede31ab604f30baf1225d42b0456268d3a09059daa652f0b635f5a1cc", func := "timbrel/timbkeep1.RingNotation", spec := "ringNotation", inPlace := ["internal/abi.NoEscape", "internal/bytealg.IndexByteString"], unfollowed := true, recurses := true, apart := false, narrowed := true }
def RingNotationUptoSaid : Prop := ringNotationUptoRow.holds Try.pinned (OpenSpec.upto ringNotationSpec)

/-- 'timbkeep1.MatchingRelations', WHERE WHAT IT READS IS OF BULK AT MOST 1048576: true; the input reads as it did. -/
def matchingRelationsUptoRow : OpenClaim := { program := "ytpnbkoihglppnaa", sum := "9b8dfc6ede31ab604f30baf1225d42b0456268d3a09059daa652f0b635f5a1cc", func := "timbrel/timbkeep1.MatchingRelations", spec := "matchingRelations", unfollowed := true, recurses := true, apart := false, narrowed := true }
def MatchingRelationsUptoSaid : Prop := matchingRelationsUptoRow.holds Try.pinned (OpenSpec.upto matchingRelationsSpec)

/-- 'timbkeep1.MatchingStacks', WHERE WHAT IT READS IS OF BULK AT MOST 1048576: true; the input reads as it did. -/
def matchingStacksUptoRow : OpenClaim := { program := "ytpnbkoihglppnaa", sum := "9b8dfc6ede31ab604f30baf1225d42b0456268d3a09059daa652f0b635f5a1cc", func := "timbrel/timbkeep1.MatchingStacks", spec := "matchingStacks", unfollowed := true, recurses := true, apart := false, narrowed := true }
def MatchingStacksUptoSaid : Prop := matchingStacksUptoRow.holds Try.pinned (OpenSpec.upto matchingStacksSpec)

/-- 'timbkeep1.MarkovOwn', WHERE WHAT IT READS IS OF BULK AT MOST 1048576: true; the input reads as it did. -/
def markovOwnUptoRow : OpenClaim := { program := "ytpnbkoihglppnaa", sum := "9b8dfc6ede31ab604f30baf1225d42b0456268d3a09059daa652f0b635f5a1cc", func := "timbrel/timbkeep1.MarkovOwn", spec := "markovOwn", unfollowed := true, recurses := true, apart := false, narrowed := true }
def MarkovOwnUptoSaid : Prop := markovOwnUptoRow.holds Try.pinned (OpenSpec.upto markovOwnSpec)

/-- 'timbkeep1.PermPowers', WHERE WHAT IT READS IS OF BULK AT MOST 1048576: true; the input reads as it did. -/
def permPowersUptoRow : OpenClaim := { program := "ytpnbkoihglppnaa", sum := "9b8dfc6ede31ab604f30baf1225d42b0456268d3a09059daa652f0b635f5a1cc", func := "timbrel/timbkeep1.PermPowers", spec := "permPowers", apart := false, narrowed := true }
def PermPowersUptoSaid : Prop := permPowersUptoRow.holds Try.pinned (OpenSpec.upto permPowersSpec)

/-- 'timbkeep1.TangleBack', WHERE WHAT IT READS IS OF BULK AT MOST 1048576: true; the input reads as it did. -/
def tangleBackUptoRow : OpenClaim := { program := "ytpnbkoihglppnaa", sum := "9b8dfc6ede31ab604f30baf1225d42b0456268d3a09059daa652f0b635f5a1cc", func := "timbrel/timbkeep1.TangleBack", spec := "tangleBack", unfollowed := true, recurses := true, apart := false, narrowed := true }
def TangleBackUptoSaid : Prop := tangleBackUptoRow.holds Try.pinned (OpenSpec.upto tangleBackSpec)

/-- 'timbkeep1.FreeRoots', WHERE WHAT IT READS IS OF BULK AT MOST 1048576: true; the input reads as it did. -/
def freeRootsUptoRow : OpenClaim := { program := "ytpnbkoihglppnaa", sum := "9b8dfc6ede31ab604f30baf1225d42b0456268d3a09059daa652f0b635f5a1cc", func := "timbrel/timbkeep1.FreeRoots", spec := "freeRoots", unfollowed := true, recurses := true, apart := false, narrowed := true }
def FreeRootsUptoSaid : Prop := freeRootsUptoRow.holds Try.pinned (OpenSpec.upto freeRootsSpec)

/-- 'timbkeep1.FreeConjugates', WHERE WHAT IT READS IS OF BULK AT MOST 1048576: true; the input reads as it did. -/
def freeConjugatesUptoRow : OpenClaim := { program := "ytpnbkoihglppnaa", sum := "9b8dfc6ede31ab604f30baf1225d42b0456268d3a09059daa652f0b635f5a1cc", func := "timbrel/timbkeep1.FreeConjugates", spec := "freeConjugates", unfollowed := true, recurses := true, apart := false, narrowed := true }
def FreeConjugatesUptoSaid : Prop := freeConjugatesUptoRow.holds Try.pinned (OpenSpec.upto freeConjugatesSpec)

/-- 'timbkeep1.RingExtents', WHERE WHAT IT READS IS OF BULK AT MOST 1048576: true; the input reads as it did. -/
def ringExtentsUptoRow : OpenClaim := { program := "ytpnbkoihglppnaa", sum := "9b8dfc6ede31ab604f30baf1225d42b0456268d3a09059daa652f0b635f5a1cc", func := "timbrel/timbkeep1.RingExtents", spec := "ringExtents", inPlace := ["internal/abi.NoEscape"], unfollowed := true, recurses := true, apart := false, narrowed := true }
def RingExtentsUptoSaid : Prop := ringExtentsUptoRow.holds Try.pinned (OpenSpec.upto ringExtentsSpec)

end Rows
end Go.Proofs.Ytpnbkoihglppnaa

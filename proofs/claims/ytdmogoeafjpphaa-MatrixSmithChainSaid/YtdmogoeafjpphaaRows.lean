/-
  No cell of these rows narrows 'for every input' (looked for: loops, veiled, ifaces, maps, wideKeys, modest, calm, conditions, laid).
  DERIVED. THE GIVEN ROWS OF THIS SEAT. 13 by the template 'for every input the law returns true; each argument reads behind the call as it read before'; 0 by the template 'total and deterministic' (their statements: YtdmogoeafjpphaaTotals.lean).
  GIVEN WITH THE SEED: the statements are not yours to turn. If you find one false, say at which input.
  Laid BY PROGRAM, IN A SANDBOX (cutbox-rows.mjs): the forced cells as the released guide's own fill.sh prints them over the translation 4d8aad919cdc9a76… (all of the seat's roots in one cut). By AI agents, Wed Nov 11 2026. No macro, syntax, notation, axiom, sorry.
-/
import Derived.Test.YtdmogoeafjpphaaChecked
import GoSem.Claim
import GoSem.ClaimJoined
import GoSem.ClaimMapViews
import Derived.JoinedTies
import Derived.KernelRfl
namespace Go.Proofs.Ytdmogoeafjpphaa
/- THE CELL 'sum', in the pinned program and in every row, IS THE sha256 OF THE DUMP (.gsa) THAT YtdmogoeafjpphaaProg.lean LOADS. Nothing in Lean hashes anything: it is a label: what it is worth is what the hold of that sum in a sandbox is worth. -/
noncomputable def Try.pinned : Pinned := { name := "ytdmogoeafjpphaa", sum := "4d8aad919cdc9a76d9f823ac7985add98bca2ff7eee0c20c5d7874eafd1eb9f8", checked := Try.checked }
namespace Rows
def none {H : Type} : Left H := { results := [], args := [] }

/-- 'timbkeep1.PolyDetRows': WHATEVER THE INPUT: true; the input reads as it did. -/
def polyDetRowsSpec : ChangeSpec := { name := "polyDetRows", fn := fun _ => fun
  | [d1, d2, d3, d4] => { results := [.lit (.bool true)], args := [d1, d2, d3, d4] }
  | _ => none }
def polyDetRowsRow : OpenClaim := { program := "ytdmogoeafjpphaa", sum := "4d8aad919cdc9a76d9f823ac7985add98bca2ff7eee0c20c5d7874eafd1eb9f8", func := "timbrel/timbkeep1.PolyDetRows", spec := "polyDetRows", unfollowed := true, recurses := true, plainKeys := false, apart := false }
def PolyDetRowsSaid : Prop := polyDetRowsRow.holds Try.pinned (OpenSpec.ofChange polyDetRowsSpec)

/-- ITS FALSE NEIGHBOUR: 'it returns false'. Refute it at one input. -/
def polyDetRowsWrong : ChangeSpec := { name := "polyDetRows", fn := fun _ => fun
  | [d1, d2, d3, d4] => { results := [.lit (.bool false)], args := [d1, d2, d3, d4] }
  | _ => none }
def PolyDetRowsWrongFalsely : Prop := polyDetRowsRow.holds Try.pinned (OpenSpec.ofChange polyDetRowsWrong)

/-- 'timbkeep1.BraidRelations': WHATEVER THE INPUT: true; the input reads as it did. -/
def braidRelationsSpec : ChangeSpec := { name := "braidRelations", fn := fun _ => fun
  | [d1, d2, d3, d4, d5] => { results := [.lit (.bool true)], args := [d1, d2, d3, d4, d5] }
  | _ => none }
def braidRelationsRow : OpenClaim := { program := "ytdmogoeafjpphaa", sum := "4d8aad919cdc9a76d9f823ac7985add98bca2ff7eee0c20c5d7874eafd1eb9f8", func := "timbrel/timbkeep1.BraidRelations", spec := "braidRelations", unfollowed := true, recurses := true, plainKeys := false, apart := false }
def BraidRelationsSaid : Prop := braidRelationsRow.holds Try.pinned (OpenSpec.ofChange braidRelationsSpec)

/-- ITS FALSE NEIGHBOUR: 'it returns false'. Refute it at one input. -/
def braidRelationsWrong : ChangeSpec := { name := "braidRelations", fn := fun _ => fun
  | [d1, d2, d3, d4, d5] => { results := [.lit (.bool false)], args := [d1, d2, d3, d4, d5] }
  | _ => none }
def BraidRelationsWrongFalsely : Prop := braidRelationsRow.holds Try.pinned (OpenSpec.ofChange braidRelationsWrong)

/-- 'timbkeep1.BraidBurauSums': WHATEVER THE INPUT: true; the input reads as it did. -/
def braidBurauSumsSpec : ChangeSpec := { name := "braidBurauSums", fn := fun _ => fun
  | [d1, d2] => { results := [.lit (.bool true)], args := [d1, d2] }
  | _ => none }
def braidBurauSumsRow : OpenClaim := { program := "ytdmogoeafjpphaa", sum := "4d8aad919cdc9a76d9f823ac7985add98bca2ff7eee0c20c5d7874eafd1eb9f8", func := "timbrel/timbkeep1.BraidBurauSums", spec := "braidBurauSums", unfollowed := true, recurses := true, plainKeys := false, apart := false }
def BraidBurauSumsSaid : Prop := braidBurauSumsRow.holds Try.pinned (OpenSpec.ofChange braidBurauSumsSpec)

/-- ITS FALSE NEIGHBOUR: 'it returns false'. Refute it at one input. -/
def braidBurauSumsWrong : ChangeSpec := { name := "braidBurauSums", fn := fun _ => fun
  | [d1, d2] => { results := [.lit (.bool false)], args := [d1, d2] }
  | _ => none }
def BraidBurauSumsWrongFalsely : Prop := braidBurauSumsRow.holds Try.pinned (OpenSpec.ofChange braidBurauSumsWrong)

/-- 'timbkeep1.BraidHomomorphisms': WHATEVER THE INPUT: true; the input reads as it did. -/
def braidHomomorphismsSpec : ChangeSpec := { name := "braidHomomorphisms", fn := fun _ => fun
  | [d1, d2, d3] => { results := [.lit (.bool true)], args := [d1, d2, d3] }
  | _ => none }
def braidHomomorphismsRow : OpenClaim := { program := "ytdmogoeafjpphaa", sum := "4d8aad919cdc9a76d9f823ac7985add98bca2ff7eee0c20c5d7874eafd1eb9f8", func := "timbrel/timbkeep1.BraidHomomorphisms", spec := "braidHomomorphisms", unfollowed := true, recurses := true, plainKeys := false, apart := false }
def BraidHomomorphismsSaid : Prop := braidHomomorphismsRow.holds Try.pinned (OpenSpec.ofChange braidHomomorphismsSpec)

/-- ITS FALSE NEIGHBOUR: 'it returns false'. Refute it at one input. -/
def braidHomomorphismsWrong : ChangeSpec := { name := "braidHomomorphisms", fn := fun _ => fun
  | [d1, d2, d3] => { results := [.lit (.bool false)], args := [d1, d2, d3] }
  | _ => none }
def BraidHomomorphismsWrongFalsely : Prop := braidHomomorphismsRow.holds Try.pinned (OpenSpec.ofChange braidHomomorphismsWrong)

/-- 'timbtop.TopFox': WHATEVER THE INPUT: true; the input reads as it did. -/
def topFoxSpec : ChangeSpec := { name := "topFox", fn := fun _ => fun
  | [d1, d2] => { results := [.lit (.bool true)], args := [d1, d2] }
  | _ => none }
def topFoxRow : OpenClaim := { program := "ytdmogoeafjpphaa", sum := "4d8aad919cdc9a76d9f823ac7985add98bca2ff7eee0c20c5d7874eafd1eb9f8", func := "timbrel/timbtop.TopFox", spec := "topFox", unfollowed := true, recurses := true, plainKeys := false, apart := false }
def TopFoxSaid : Prop := topFoxRow.holds Try.pinned (OpenSpec.ofChange topFoxSpec)

/-- ITS FALSE NEIGHBOUR: 'it returns false'. Refute it at one input. -/
def topFoxWrong : ChangeSpec := { name := "topFox", fn := fun _ => fun
  | [d1, d2] => { results := [.lit (.bool false)], args := [d1, d2] }
  | _ => none }
def TopFoxWrongFalsely : Prop := topFoxRow.holds Try.pinned (OpenSpec.ofChange topFoxWrong)

/-- 'timbkeep1.JonesMirror': WHATEVER THE INPUT: true; the input reads as it did. -/
def jonesMirrorSpec : ChangeSpec := { name := "jonesMirror", fn := fun _ => fun
  | [d1, d2] => { results := [.lit (.bool true)], args := [d1, d2] }
  | _ => none }
def jonesMirrorRow : OpenClaim := { program := "ytdmogoeafjpphaa", sum := "4d8aad919cdc9a76d9f823ac7985add98bca2ff7eee0c20c5d7874eafd1eb9f8", func := "timbrel/timbkeep1.JonesMirror", spec := "jonesMirror", unfollowed := true, recurses := true, plainKeys := false, apart := false }
def JonesMirrorSaid : Prop := jonesMirrorRow.holds Try.pinned (OpenSpec.ofChange jonesMirrorSpec)

/-- ITS FALSE NEIGHBOUR: 'it returns false'. Refute it at one input. -/
def jonesMirrorWrong : ChangeSpec := { name := "jonesMirror", fn := fun _ => fun
  | [d1, d2] => { results := [.lit (.bool false)], args := [d1, d2] }
  | _ => none }
def JonesMirrorWrongFalsely : Prop := jonesMirrorRow.holds Try.pinned (OpenSpec.ofChange jonesMirrorWrong)

/-- 'timbkeep1.JonesSkein': WHATEVER THE INPUT: true; the input reads as it did. -/
def jonesSkeinSpec : ChangeSpec := { name := "jonesSkein", fn := fun _ => fun
  | [d1, d2, d3, d4] => { results := [.lit (.bool true)], args := [d1, d2, d3, d4] }
  | _ => none }
def jonesSkeinRow : OpenClaim := { program := "ytdmogoeafjpphaa", sum := "4d8aad919cdc9a76d9f823ac7985add98bca2ff7eee0c20c5d7874eafd1eb9f8", func := "timbrel/timbkeep1.JonesSkein", spec := "jonesSkein", unfollowed := true, recurses := true, plainKeys := false, apart := false }
def JonesSkeinSaid : Prop := jonesSkeinRow.holds Try.pinned (OpenSpec.ofChange jonesSkeinSpec)

/-- ITS FALSE NEIGHBOUR: 'it returns false'. Refute it at one input. -/
def jonesSkeinWrong : ChangeSpec := { name := "jonesSkein", fn := fun _ => fun
  | [d1, d2, d3, d4] => { results := [.lit (.bool false)], args := [d1, d2, d3, d4] }
  | _ => none }
def JonesSkeinWrongFalsely : Prop := jonesSkeinRow.holds Try.pinned (OpenSpec.ofChange jonesSkeinWrong)

/-- 'timbkeep1.MatchingRelations': WHATEVER THE INPUT: true; the input reads as it did. -/
def matchingRelationsSpec : ChangeSpec := { name := "matchingRelations", fn := fun _ => fun
  | [d1, d2, d3] => { results := [.lit (.bool true)], args := [d1, d2, d3] }
  | _ => none }
def matchingRelationsRow : OpenClaim := { program := "ytdmogoeafjpphaa", sum := "4d8aad919cdc9a76d9f823ac7985add98bca2ff7eee0c20c5d7874eafd1eb9f8", func := "timbrel/timbkeep1.MatchingRelations", spec := "matchingRelations", unfollowed := true, recurses := true, plainKeys := false, apart := false }
def MatchingRelationsSaid : Prop := matchingRelationsRow.holds Try.pinned (OpenSpec.ofChange matchingRelationsSpec)

/-- ITS FALSE NEIGHBOUR: 'it returns false'. Refute it at one input. -/
def matchingRelationsWrong : ChangeSpec := { name := "matchingRelations", fn := fun _ => fun
  | [d1, d2, d3] => { results := [.lit (.bool false)], args := [d1, d2, d3] }
  | _ => none }
def MatchingRelationsWrongFalsely : Prop := matchingRelationsRow.holds Try.pinned (OpenSpec.ofChange matchingRelationsWrong)

/-- 'timbkeep1.MatchingStacks': WHATEVER THE INPUT: true; the input reads as it did. -/
def matchingStacksSpec : ChangeSpec := { name := "matchingStacks", fn := fun _ => fun
  | [d1, d2, d3, d4] => { results := [.lit (.bool true)], args := [d1, d2, d3, d4] }
  | _ => none }
def matchingStacksRow : OpenClaim := { program := "ytdmogoeafjpphaa", sum := "4d8aad919cdc9a76d9f823ac7985add98bca2ff7eee0c20c5d7874eafd1eb9f8", func := "timbrel/timbkeep1.MatchingStacks", spec := "matchingStacks", unfollowed := true, recurses := true, plainKeys := false, apart := false }
def MatchingStacksSaid : Prop := matchingStacksRow.holds Try.pinned (OpenSpec.ofChange matchingStacksSpec)

/-- ITS FALSE NEIGHBOUR: 'it returns false'. Refute it at one input. -/
def matchingStacksWrong : ChangeSpec := { name := "matchingStacks", fn := fun _ => fun
  | [d1, d2, d3, d4] => { results := [.lit (.bool false)], args := [d1, d2, d3, d4] }
  | _ => none }
def MatchingStacksWrongFalsely : Prop := matchingStacksRow.holds Try.pinned (OpenSpec.ofChange matchingStacksWrong)

/-- 'timbkeep1.RingExtents': WHATEVER THE INPUT: true; the input reads as it did. -/
def ringExtentsSpec : ChangeSpec := { name := "ringExtents", fn := fun _ => fun
  | [d] => { results := [.lit (.bool true)], args := [d] }
  | _ => none }
def ringExtentsRow : OpenClaim := { program := "ytdmogoeafjpphaa", sum := "4d8aad919cdc9a76d9f823ac7985add98bca2ff7eee0c20c5d7874eafd1eb9f8", func := "timbrel/timbkeep1.RingExtents", spec := "ringExtents", inPlace := ["internal/abi.NoEscape"], unfollowed := true, recurses := true, plainKeys := false, apart := false }
def RingExtentsSaid : Prop := ringExtentsRow.holds Try.pinned (OpenSpec.ofChange ringExtentsSpec)

/-- ITS FALSE NEIGHBOUR: 'it returns false'. Refute it at one input. -/
def ringExtentsWrong : ChangeSpec := { name := "ringExtents", fn := fun _ => fun
  | [d] => { results := [.lit (.bool false)], args := [d] }
  | _ => none }
def RingExtentsWrongFalsely : Prop := ringExtentsRow.holds Try.pinned (OpenSpec.ofChange ringExtentsWrong)

/-- 'timbkeep1.MatrixSmithChain': WHATEVER THE INPUT: true; the input reads as it did. -/
def matrixSmithChainSpec : ChangeSpec := { name := "matrixSmithChain", fn := fun _ => fun
  | [d1, d2, d3, d4, d5] => { results := [.lit (.bool true)], args := [d1, d2, d3, d4, d5] }
  | _ => none }
def matrixSmithChainRow : OpenClaim := { program := "ytdmogoeafjpphaa", sum := "4d8aad919cdc9a76d9f823ac7985add98bca2ff7eee0c20c5d7874eafd1eb9f8", func := "timbrel/timbkeep1.MatrixSmithChain", spec := "matrixSmithChain", unfollowed := true, recurses := true, plainKeys := false, apart := false }
def MatrixSmithChainSaid : Prop := matrixSmithChainRow.holds Try.pinned (OpenSpec.ofChange matrixSmithChainSpec)

/-- ITS FALSE NEIGHBOUR: 'it returns false'. Refute it at one input. -/
def matrixSmithChainWrong : ChangeSpec := { name := "matrixSmithChain", fn := fun _ => fun
  | [d1, d2, d3, d4, d5] => { results := [.lit (.bool false)], args := [d1, d2, d3, d4, d5] }
  | _ => none }
def MatrixSmithChainWrongFalsely : Prop := matrixSmithChainRow.holds Try.pinned (OpenSpec.ofChange matrixSmithChainWrong)

/-- 'timbkeep1.GroupLagrange': WHATEVER THE INPUT: true; the input reads as it did. -/
def groupLagrangeSpec : ChangeSpec := { name := "groupLagrange", fn := fun _ => fun
  | [d1, d2, d3] => { results := [.lit (.bool true)], args := [d1, d2, d3] }
  | _ => none }
def groupLagrangeRow : OpenClaim := { program := "ytdmogoeafjpphaa", sum := "4d8aad919cdc9a76d9f823ac7985add98bca2ff7eee0c20c5d7874eafd1eb9f8", func := "timbrel/timbkeep1.GroupLagrange", spec := "groupLagrange", recurses := true, plainKeys := false, apart := false }
def GroupLagrangeSaid : Prop := groupLagrangeRow.holds Try.pinned (OpenSpec.ofChange groupLagrangeSpec)

/-- ITS FALSE NEIGHBOUR: 'it returns false'. Refute it at one input. -/
def groupLagrangeWrong : ChangeSpec := { name := "groupLagrange", fn := fun _ => fun
  | [d1, d2, d3] => { results := [.lit (.bool false)], args := [d1, d2, d3] }
  | _ => none }
def GroupLagrangeWrongFalsely : Prop := groupLagrangeRow.holds Try.pinned (OpenSpec.ofChange groupLagrangeWrong)

/-- 'timbkeep1.GroupWords': WHATEVER THE INPUT: true; the input reads as it did. -/
def groupWordsSpec : ChangeSpec := { name := "groupWords", fn := fun _ => fun
  | [d1, d2, d3] => { results := [.lit (.bool true)], args := [d1, d2, d3] }
  | _ => none }
def groupWordsRow : OpenClaim := { program := "ytdmogoeafjpphaa", sum := "4d8aad919cdc9a76d9f823ac7985add98bca2ff7eee0c20c5d7874eafd1eb9f8", func := "timbrel/timbkeep1.GroupWords", spec := "groupWords", unfollowed := true, recurses := true, plainKeys := false, apart := false }
def GroupWordsSaid : Prop := groupWordsRow.holds Try.pinned (OpenSpec.ofChange groupWordsSpec)

/-- ITS FALSE NEIGHBOUR: 'it returns false'. Refute it at one input. -/
def groupWordsWrong : ChangeSpec := { name := "groupWords", fn := fun _ => fun
  | [d1, d2, d3] => { results := [.lit (.bool false)], args := [d1, d2, d3] }
  | _ => none }
def GroupWordsWrongFalsely : Prop := groupWordsRow.holds Try.pinned (OpenSpec.ofChange groupWordsWrong)

/- THE SECOND FORM. 'bulk': how many values and letters a reading holds, each counted each time it is reached (what is shared counts as often as it is met; a slice's spare places count too). A statement '..UptoSaid' is the law's where the arguments, and the package variables that the reading takes, are together of bulk at most 1048576: NARROWER than '..Said'. Prove '..Said' where nothing that the law and all that it calls make is longer than what came in: it says more and counts as full. Else prove '..UptoSaid'. A law counts once. -/
mutual
def uptoBulk {H : Type} : DataW H → Nat
  | .lit (.string bytes) => bytes.length + 1
  | .lit _ => 1
  | .nil => 1
  | .ptr d => uptoBulk d + 1
  | .slice elems spare => uptoBulkAll elems + uptoBulkAll spare + 1
  | .agg parts => uptoBulkAll parts + 1
  | .iface _ d => uptoBulk d + 1
  | .map entries => uptoBulkEntries entries + 1
  | .held _ => 1
def uptoBulkAll {H : Type} : List (DataW H) → Nat
  | [] => 0
  | d :: r => uptoBulk d + uptoBulkAll r
def uptoBulkEntries {H : Type} : List (Lit × DataW H) → Nat
  | [] => 0
  | x :: r => uptoBulkEntry x + uptoBulkEntries r
def uptoBulkEntry {H : Type} : Lit × DataW H → Nat
  | (.string bytes, d) => bytes.length + uptoBulk d + 1
  | (_, d) => uptoBulk d + 1
 end
def uptoSmall : (H : Type) → List (DataW H) → Bool := fun _ ds => decide (uptoBulkAll ds ≤ 1048576)
def OpenSpec.upto (s : _root_.Go.ChangeSpec) : _root_.Go.OpenSpec := { _root_.Go.OpenSpec.ofChange s with cond := some uptoSmall }

/-- 'timbkeep1.PolyDetRows', WHERE WHAT IT READS IS OF BULK AT MOST 1048576: true; the input reads as it did. -/
def polyDetRowsUptoRow : OpenClaim := { program := "ytdmogoeafjpphaa", sum := "4d8aad919cdc9a76d9f823ac7985add98bca2ff7eee0c20c5d7874eafd1eb9f8", func := "timbrel/timbkeep1.PolyDetRows", spec := "polyDetRows", unfollowed := true, recurses := true, plainKeys := false, apart := false, narrowed := true }
def PolyDetRowsUptoSaid : Prop := polyDetRowsUptoRow.holds Try.pinned (OpenSpec.upto polyDetRowsSpec)

/-- 'timbkeep1.BraidRelations', WHERE WHAT IT READS IS OF BULK AT MOST 1048576: true; the input reads as it did. -/
def braidRelationsUptoRow : OpenClaim := { program := "ytdmogoeafjpphaa", sum := "4d8aad919cdc9a76d9f823ac7985add98bca2ff7eee0c20c5d7874eafd1eb9f8", func := "timbrel/timbkeep1.BraidRelations", spec := "braidRelations", unfollowed := true, recurses := true, plainKeys := false, apart := false, narrowed := true }
def BraidRelationsUptoSaid : Prop := braidRelationsUptoRow.holds Try.pinned (OpenSpec.upto braidRelationsSpec)

/-- 'timbkeep1.BraidBurauSums', WHERE WHAT IT READS IS OF BULK AT MOST 1048576: true; the input reads as it did. -/
def braidBurauSumsUptoRow : OpenClaim := { program := "ytdmogoeafjpphaa", sum := "4d8aad919cdc9a76d9f823ac7985add98bca2ff7eee0c20c5d7874eafd1eb9f8", func := "timbrel/timbkeep1.BraidBurauSums", spec := "braidBurauSums", unfollowed := true, recurses := true, plainKeys := false, apart := false, narrowed := true }
def BraidBurauSumsUptoSaid : Prop := braidBurauSumsUptoRow.holds Try.pinned (OpenSpec.upto braidBurauSumsSpec)

/-- 'timbkeep1.BraidHomomorphisms', WHERE WHAT IT READS IS OF BULK AT MOST 1048576: true; the input reads as it did. -/
def braidHomomorphismsUptoRow : OpenClaim := { program := "ytdmogoeafjpphaa", sum := "4d8aad919cdc9a76d9f823ac7985add98bca2ff7eee0c20c5d7874eafd1eb9f8", func := "timbrel/timbkeep1.BraidHomomorphisms", spec := "braidHomomorphisms", unfollowed := true, recurses := true, plainKeys := false, apart := false, narrowed := true }
def BraidHomomorphismsUptoSaid : Prop := braidHomomorphismsUptoRow.holds Try.pinned (OpenSpec.upto braidHomomorphismsSpec)

/-- 'timbtop.TopFox', WHERE WHAT IT READS IS OF BULK AT MOST 1048576: true; the input reads as it did. -/
def topFoxUptoRow : OpenClaim := { program := "ytdmogoeafjpphaa", sum := "4d8aad919cdc9a76d9f823ac7985add98bca2ff7eee0c20c5d7874eafd1eb9f8", func := "timbrel/timbtop.TopFox", spec := "topFox", unfollowed := true, recurses := true, plainKeys := false, apart := false, narrowed := true }
def TopFoxUptoSaid : Prop := topFoxUptoRow.holds Try.pinned (OpenSpec.upto topFoxSpec)

/-- 'timbkeep1.JonesMirror', WHERE WHAT IT READS IS OF BULK AT MOST 1048576: true; the input reads as it did. -/
def jonesMirrorUptoRow : OpenClaim := { program := "ytdmogoeafjpphaa", sum := "4d8aad919cdc9a76d9f823ac7985add98bca2ff7eee0c20c5d7874eafd1eb9f8", func := "timbrel/timbkeep1.JonesMirror", spec := "jonesMirror", unfollowed := true, recurses := true, plainKeys := false, apart := false, narrowed := true }
def JonesMirrorUptoSaid : Prop := jonesMirrorUptoRow.holds Try.pinned (OpenSpec.upto jonesMirrorSpec)

/-- 'timbkeep1.JonesSkein', WHERE WHAT IT READS IS OF BULK AT MOST 1048576: true; the input reads as it did. -/
def jonesSkeinUptoRow : OpenClaim := { program := "ytdmogoeafjpphaa", sum := "4d8aad919cdc9a76d9f823ac7985add98bca2ff7eee0c20c5d7874eafd1eb9f8", func := "timbrel/timbkeep1.JonesSkein", spec := "jonesSkein", unfollowed := true, recurses := true, plainKeys := false, apart := false, narrowed := true }
def JonesSkeinUptoSaid : Prop := jonesSkeinUptoRow.holds Try.pinned (OpenSpec.upto jonesSkeinSpec)

/-- 'timbkeep1.MatchingRelations', WHERE WHAT IT READS IS OF BULK AT MOST 1048576: true; the input reads as it did. -/
def matchingRelationsUptoRow : OpenClaim := { program := "ytdmogoeafjpphaa", sum := "4d8aad919cdc9a76d9f823ac7985add98bca2ff7eee0c20c5d7874eafd1eb9f8", func := "timbrel/timbkeep1.MatchingRelations", spec := "matchingRelations", unfollowed := true, recurses := true, plainKeys := false, apart := false, narrowed := true }
def MatchingRelationsUptoSaid : Prop := matchingRelationsUptoRow.holds Try.pinned (OpenSpec.upto matchingRelationsSpec)

/-- 'timbkeep1.MatchingStacks', WHERE WHAT IT READS IS OF BULK AT MOST 1048576: true; the input reads as it did. -/
def matchingStacksUptoRow : OpenClaim := { program := "ytdmogoeafjpphaa", sum := "4d8aad919cdc9a76d9f823ac7985add98bca2ff7eee0c20c5d7874eafd1eb9f8", func := "timbrel/timbkeep1.MatchingStacks", spec := "matchingStacks", unfollowed := true, recurses := true, plainKeys := false, apart := false, narrowed := true }
def MatchingStacksUptoSaid : Prop := matchingStacksUptoRow.holds Try.pinned (OpenSpec.upto matchingStacksSpec)

/-- 'timbkeep1.RingExtents', WHERE WHAT IT READS IS OF BULK AT MOST 1048576: true; the input reads as it did. -/
def ringExtentsUptoRow : OpenClaim := { program := "ytdmogoeafjpphaa", sum := "4d8aad919cdc9a76d9f823ac7985add98bca2ff7eee0c20c5d7874eafd1eb9f8", func := "timbrel/timbkeep1.RingExtents", spec := "ringExtents", inPlace := ["internal/abi.NoEscape"], unfollowed := true, recurses := true, plainKeys := false, apart := false, narrowed := true }
def RingExtentsUptoSaid : Prop := ringExtentsUptoRow.holds Try.pinned (OpenSpec.upto ringExtentsSpec)

/-- 'timbkeep1.MatrixSmithChain', WHERE WHAT IT READS IS OF BULK AT MOST 1048576: true; the input reads as it did. -/
def matrixSmithChainUptoRow : OpenClaim := { program := "ytdmogoeafjpphaa", sum := "4d8aad919cdc9a76d9f823ac7985add98bca2ff7eee0c20c5d7874eafd1eb9f8", func := "timbrel/timbkeep1.MatrixSmithChain", spec := "matrixSmithChain", unfollowed := true, recurses := true, plainKeys := false, apart := false, narrowed := true }
def MatrixSmithChainUptoSaid : Prop := matrixSmithChainUptoRow.holds Try.pinned (OpenSpec.upto matrixSmithChainSpec)

/-- 'timbkeep1.GroupLagrange', WHERE WHAT IT READS IS OF BULK AT MOST 1048576: true; the input reads as it did. -/
def groupLagrangeUptoRow : OpenClaim := { program := "ytdmogoeafjpphaa", sum := "4d8aad919cdc9a76d9f823ac7985add98bca2ff7eee0c20c5d7874eafd1eb9f8", func := "timbrel/timbkeep1.GroupLagrange", spec := "groupLagrange", recurses := true, plainKeys := false, apart := false, narrowed := true }
def GroupLagrangeUptoSaid : Prop := groupLagrangeUptoRow.holds Try.pinned (OpenSpec.upto groupLagrangeSpec)

/-- 'timbkeep1.GroupWords', WHERE WHAT IT READS IS OF BULK AT MOST 1048576: true; the input reads as it did. -/
def groupWordsUptoRow : OpenClaim := { program := "ytdmogoeafjpphaa", sum := "4d8aad919cdc9a76d9f823ac7985add98bca2ff7eee0c20c5d7874eafd1eb9f8", func := "timbrel/timbkeep1.GroupWords", spec := "groupWords", unfollowed := true, recurses := true, plainKeys := false, apart := false, narrowed := true }
def GroupWordsUptoSaid : Prop := groupWordsUptoRow.holds Try.pinned (OpenSpec.upto groupWordsSpec)

end Rows
end Go.Proofs.Ytdmogoeafjpphaa

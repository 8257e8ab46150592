/-
  No cell of these rows narrows 'for every input' (looked for: loops, veiled, ifaces, maps, wideKeys, modest, calm, conditions, laid).
  DERIVED. THE GIVEN ROWS OF THIS SEAT. 13 by the template 'for every input the law returns true; each argument reads behind the call as it read before'; 0 by the template 'total and deterministic' (their statements: YtckopilciekfbaaTotals.lean).
  GIVEN WITH THE SEED: the statements are not yours to turn. If you find one false, say at which input.
  Laid BY PROGRAM, IN A SANDBOX (cutbox-rows.mjs): the forced cells as the released guide's own fill.sh prints them over the translation 23b795c500d3396e… (all of the seat's roots in one cut). By AI agents, Wed Nov 11 2026. No macro, syntax, notation, axiom, sorry.
-/
import Derived.Test.YtckopilciekfbaaChecked
import GoSem.Claim
import GoSem.ClaimJoined
import GoSem.ClaimMapViews
import Derived.JoinedTies
import Derived.KernelRfl
namespace Go.Proofs.Ytckopilciekfbaa
/- THE CELL 'sum', in the pinned program and in every row, IS THE sha256 OF THE DUMP (.gsa) THAT YtckopilciekfbaaProg.lean LOADS. Nothing in Lean hashes anything: it is a label: what it is worth is what the hold of that sum in a sandbox is worth. -/
noncomputable def Try.pinned : Pinned := { name := "ytckopilciekfbaa", sum := "23b795c500d3396e6b2e91b9245e8a15fb84e8898b1d18ca1bfcd2dc1cd8d7dc", checked := Try.checked }
namespace Rows
def none {H : Type} : Left H := { results := [], args := [] }

/-- 'timbkeep1.AlexanderParity': WHATEVER THE INPUT: true; the input reads as it did. -/
def alexanderParitySpec : ChangeSpec := { name := "alexanderParity", fn := fun _ => fun
  | [d1, d2] => { results := [.lit (.bool true)], args := [d1, d2] }
  | _ => none }
def alexanderParityRow : OpenClaim := { program := "ytckopilciekfbaa", sum := "23b795c500d3396e6b2e91b9245e8a15fb84e8898b1d18ca1bfcd2dc1cd8d7dc", func := "timbrel/timbkeep1.AlexanderParity", spec := "alexanderParity", unfollowed := true, recurses := true, plainKeys := false, apart := false }
def AlexanderParitySaid : Prop := alexanderParityRow.holds Try.pinned (OpenSpec.ofChange alexanderParitySpec)

/-- ITS FALSE NEIGHBOUR: 'it returns false'. Refute it at one input. -/
def alexanderParityWrong : ChangeSpec := { name := "alexanderParity", fn := fun _ => fun
  | [d1, d2] => { results := [.lit (.bool false)], args := [d1, d2] }
  | _ => none }
def AlexanderParityWrongFalsely : Prop := alexanderParityRow.holds Try.pinned (OpenSpec.ofChange alexanderParityWrong)

/-- 'timbkeep1.AlexanderSymmetry': WHATEVER THE INPUT: true; the input reads as it did. -/
def alexanderSymmetrySpec : ChangeSpec := { name := "alexanderSymmetry", fn := fun _ => fun
  | [d1, d2] => { results := [.lit (.bool true)], args := [d1, d2] }
  | _ => none }
def alexanderSymmetryRow : OpenClaim := { program := "ytckopilciekfbaa", sum := "23b795c500d3396e6b2e91b9245e8a15fb84e8898b1d18ca1bfcd2dc1cd8d7dc", func := "timbrel/timbkeep1.AlexanderSymmetry", spec := "alexanderSymmetry", unfollowed := true, recurses := true, plainKeys := false, apart := false }
def AlexanderSymmetrySaid : Prop := alexanderSymmetryRow.holds Try.pinned (OpenSpec.ofChange alexanderSymmetrySpec)

/-- ITS FALSE NEIGHBOUR: 'it returns false'. Refute it at one input. -/
def alexanderSymmetryWrong : ChangeSpec := { name := "alexanderSymmetry", fn := fun _ => fun
  | [d1, d2] => { results := [.lit (.bool false)], args := [d1, d2] }
  | _ => none }
def AlexanderSymmetryWrongFalsely : Prop := alexanderSymmetryRow.holds Try.pinned (OpenSpec.ofChange alexanderSymmetryWrong)

/-- 'timbtop.TopTorus': WHATEVER THE INPUT: true; the input reads as it did. -/
def topTorusSpec : ChangeSpec := { name := "topTorus", fn := fun _ => fun
  | [d1, d2] => { results := [.lit (.bool true)], args := [d1, d2] }
  | _ => none }
def topTorusRow : OpenClaim := { program := "ytckopilciekfbaa", sum := "23b795c500d3396e6b2e91b9245e8a15fb84e8898b1d18ca1bfcd2dc1cd8d7dc", func := "timbrel/timbtop.TopTorus", spec := "topTorus", unfollowed := true, recurses := true, plainKeys := false, apart := false }
def TopTorusSaid : Prop := topTorusRow.holds Try.pinned (OpenSpec.ofChange topTorusSpec)

/-- ITS FALSE NEIGHBOUR: 'it returns false'. Refute it at one input. -/
def topTorusWrong : ChangeSpec := { name := "topTorus", fn := fun _ => fun
  | [d1, d2] => { results := [.lit (.bool false)], args := [d1, d2] }
  | _ => none }
def TopTorusWrongFalsely : Prop := topTorusRow.holds Try.pinned (OpenSpec.ofChange topTorusWrong)

/-- 'timbkeep1.ColorCounts2': WHATEVER THE INPUT: true; the input reads as it did. -/
def colorCounts2Spec : ChangeSpec := { name := "colorCounts2", fn := fun _ => fun
  | [d1, d2, d3] => { results := [.lit (.bool true)], args := [d1, d2, d3] }
  | _ => none }
def colorCounts2Row : OpenClaim := { program := "ytckopilciekfbaa", sum := "23b795c500d3396e6b2e91b9245e8a15fb84e8898b1d18ca1bfcd2dc1cd8d7dc", func := "timbrel/timbkeep1.ColorCounts2", spec := "colorCounts2", unfollowed := true, recurses := true, plainKeys := false, apart := false }
def ColorCounts2Said : Prop := colorCounts2Row.holds Try.pinned (OpenSpec.ofChange colorCounts2Spec)

/-- ITS FALSE NEIGHBOUR: 'it returns false'. Refute it at one input. -/
def colorCounts2Wrong : ChangeSpec := { name := "colorCounts2", fn := fun _ => fun
  | [d1, d2, d3] => { results := [.lit (.bool false)], args := [d1, d2, d3] }
  | _ => none }
def ColorCounts2WrongFalsely : Prop := colorCounts2Row.holds Try.pinned (OpenSpec.ofChange colorCounts2Wrong)

/-- 'timbkeep1.ColorDeterminant': WHATEVER THE INPUT: true; the input reads as it did. -/
def colorDeterminantSpec : ChangeSpec := { name := "colorDeterminant", fn := fun _ => fun
  | [d1, d2, d3] => { results := [.lit (.bool true)], args := [d1, d2, d3] }
  | _ => none }
def colorDeterminantRow : OpenClaim := { program := "ytckopilciekfbaa", sum := "23b795c500d3396e6b2e91b9245e8a15fb84e8898b1d18ca1bfcd2dc1cd8d7dc", func := "timbrel/timbkeep1.ColorDeterminant", spec := "colorDeterminant", unfollowed := true, recurses := true, plainKeys := false, apart := false }
def ColorDeterminantSaid : Prop := colorDeterminantRow.holds Try.pinned (OpenSpec.ofChange colorDeterminantSpec)

/-- ITS FALSE NEIGHBOUR: 'it returns false'. Refute it at one input. -/
def colorDeterminantWrong : ChangeSpec := { name := "colorDeterminant", fn := fun _ => fun
  | [d1, d2, d3] => { results := [.lit (.bool false)], args := [d1, d2, d3] }
  | _ => none }
def ColorDeterminantWrongFalsely : Prop := colorDeterminantRow.holds Try.pinned (OpenSpec.ofChange colorDeterminantWrong)

/-- 'timbkeep1.JonesMirror': WHATEVER THE INPUT: true; the input reads as it did. -/
def jonesMirrorSpec : ChangeSpec := { name := "jonesMirror", fn := fun _ => fun
  | [d1, d2] => { results := [.lit (.bool true)], args := [d1, d2] }
  | _ => none }
def jonesMirrorRow : OpenClaim := { program := "ytckopilciekfbaa", sum := "23b795c500d3396e6b2e91b9245e8a15fb84e8898b1d18ca1bfcd2dc1cd8d7dc", func := "timbrel/timbkeep1.JonesMirror", spec := "jonesMirror", unfollowed := true, recurses := true, plainKeys := false, apart := false }
def JonesMirrorSaid : Prop := jonesMirrorRow.holds Try.pinned (OpenSpec.ofChange jonesMirrorSpec)

/-- ITS FALSE NEIGHBOUR: 'it returns false'. Refute it at one input. -/
def jonesMirrorWrong : ChangeSpec := { name := "jonesMirror", fn := fun _ => fun
  | [d1, d2] => { results := [.lit (.bool false)], args := [d1, d2] }
  | _ => none }
def JonesMirrorWrongFalsely : Prop := jonesMirrorRow.holds Try.pinned (OpenSpec.ofChange jonesMirrorWrong)

/-- 'timbkeep1.JonesSkein': WHATEVER THE INPUT: true; the input reads as it did. -/
def jonesSkeinSpec : ChangeSpec := { name := "jonesSkein", fn := fun _ => fun
  | [d1, d2, d3, d4] => { results := [.lit (.bool true)], args := [d1, d2, d3, d4] }
  | _ => none }
def jonesSkeinRow : OpenClaim := { program := "ytckopilciekfbaa", sum := "23b795c500d3396e6b2e91b9245e8a15fb84e8898b1d18ca1bfcd2dc1cd8d7dc", func := "timbrel/timbkeep1.JonesSkein", spec := "jonesSkein", unfollowed := true, recurses := true, plainKeys := false, apart := false }
def JonesSkeinSaid : Prop := jonesSkeinRow.holds Try.pinned (OpenSpec.ofChange jonesSkeinSpec)

/-- ITS FALSE NEIGHBOUR: 'it returns false'. Refute it at one input. -/
def jonesSkeinWrong : ChangeSpec := { name := "jonesSkein", fn := fun _ => fun
  | [d1, d2, d3, d4] => { results := [.lit (.bool false)], args := [d1, d2, d3, d4] }
  | _ => none }
def JonesSkeinWrongFalsely : Prop := jonesSkeinRow.holds Try.pinned (OpenSpec.ofChange jonesSkeinWrong)

/-- 'timbkeep1.JonesOne': WHATEVER THE INPUT: true; the input reads as it did. -/
def jonesOneSpec : ChangeSpec := { name := "jonesOne", fn := fun _ => fun
  | [d1, d2] => { results := [.lit (.bool true)], args := [d1, d2] }
  | _ => none }
def jonesOneRow : OpenClaim := { program := "ytckopilciekfbaa", sum := "23b795c500d3396e6b2e91b9245e8a15fb84e8898b1d18ca1bfcd2dc1cd8d7dc", func := "timbrel/timbkeep1.JonesOne", spec := "jonesOne", unfollowed := true, recurses := true, plainKeys := false, apart := false }
def JonesOneSaid : Prop := jonesOneRow.holds Try.pinned (OpenSpec.ofChange jonesOneSpec)

/-- ITS FALSE NEIGHBOUR: 'it returns false'. Refute it at one input. -/
def jonesOneWrong : ChangeSpec := { name := "jonesOne", fn := fun _ => fun
  | [d1, d2] => { results := [.lit (.bool false)], args := [d1, d2] }
  | _ => none }
def JonesOneWrongFalsely : Prop := jonesOneRow.holds Try.pinned (OpenSpec.ofChange jonesOneWrong)

/-- 'timbkeep1.MatchingRelations': WHATEVER THE INPUT: true; the input reads as it did. -/
def matchingRelationsSpec : ChangeSpec := { name := "matchingRelations", fn := fun _ => fun
  | [d1, d2, d3] => { results := [.lit (.bool true)], args := [d1, d2, d3] }
  | _ => none }
def matchingRelationsRow : OpenClaim := { program := "ytckopilciekfbaa", sum := "23b795c500d3396e6b2e91b9245e8a15fb84e8898b1d18ca1bfcd2dc1cd8d7dc", func := "timbrel/timbkeep1.MatchingRelations", spec := "matchingRelations", unfollowed := true, recurses := true, plainKeys := false, apart := false }
def MatchingRelationsSaid : Prop := matchingRelationsRow.holds Try.pinned (OpenSpec.ofChange matchingRelationsSpec)

/-- ITS FALSE NEIGHBOUR: 'it returns false'. Refute it at one input. -/
def matchingRelationsWrong : ChangeSpec := { name := "matchingRelations", fn := fun _ => fun
  | [d1, d2, d3] => { results := [.lit (.bool false)], args := [d1, d2, d3] }
  | _ => none }
def MatchingRelationsWrongFalsely : Prop := matchingRelationsRow.holds Try.pinned (OpenSpec.ofChange matchingRelationsWrong)

/-- 'timbkeep1.MatchingStacks': WHATEVER THE INPUT: true; the input reads as it did. -/
def matchingStacksSpec : ChangeSpec := { name := "matchingStacks", fn := fun _ => fun
  | [d1, d2, d3, d4] => { results := [.lit (.bool true)], args := [d1, d2, d3, d4] }
  | _ => none }
def matchingStacksRow : OpenClaim := { program := "ytckopilciekfbaa", sum := "23b795c500d3396e6b2e91b9245e8a15fb84e8898b1d18ca1bfcd2dc1cd8d7dc", func := "timbrel/timbkeep1.MatchingStacks", spec := "matchingStacks", unfollowed := true, recurses := true, plainKeys := false, apart := false }
def MatchingStacksSaid : Prop := matchingStacksRow.holds Try.pinned (OpenSpec.ofChange matchingStacksSpec)

/-- ITS FALSE NEIGHBOUR: 'it returns false'. Refute it at one input. -/
def matchingStacksWrong : ChangeSpec := { name := "matchingStacks", fn := fun _ => fun
  | [d1, d2, d3, d4] => { results := [.lit (.bool false)], args := [d1, d2, d3, d4] }
  | _ => none }
def MatchingStacksWrongFalsely : Prop := matchingStacksRow.holds Try.pinned (OpenSpec.ofChange matchingStacksWrong)

/-- 'timbkeep1.MatchingCounts': WHATEVER THE INPUT: true; the input reads as it did. -/
def matchingCountsSpec : ChangeSpec := { name := "matchingCounts", fn := fun _ => fun
  | [d1, d2] => { results := [.lit (.bool true)], args := [d1, d2] }
  | _ => none }
def matchingCountsRow : OpenClaim := { program := "ytckopilciekfbaa", sum := "23b795c500d3396e6b2e91b9245e8a15fb84e8898b1d18ca1bfcd2dc1cd8d7dc", func := "timbrel/timbkeep1.MatchingCounts", spec := "matchingCounts", unfollowed := true, recurses := true, plainKeys := false, apart := false }
def MatchingCountsSaid : Prop := matchingCountsRow.holds Try.pinned (OpenSpec.ofChange matchingCountsSpec)

/-- ITS FALSE NEIGHBOUR: 'it returns false'. Refute it at one input. -/
def matchingCountsWrong : ChangeSpec := { name := "matchingCounts", fn := fun _ => fun
  | [d1, d2] => { results := [.lit (.bool false)], args := [d1, d2] }
  | _ => none }
def MatchingCountsWrongFalsely : Prop := matchingCountsRow.holds Try.pinned (OpenSpec.ofChange matchingCountsWrong)

/-- 'timbtop.TopSums': WHATEVER THE INPUT: true; the input reads as it did. -/
def topSumsSpec : ChangeSpec := { name := "topSums", fn := fun _ => fun
  | [d1, d2, d3, d4] => { results := [.lit (.bool true)], args := [d1, d2, d3, d4] }
  | _ => none }
def topSumsRow : OpenClaim := { program := "ytckopilciekfbaa", sum := "23b795c500d3396e6b2e91b9245e8a15fb84e8898b1d18ca1bfcd2dc1cd8d7dc", func := "timbrel/timbtop.TopSums", spec := "topSums", unfollowed := true, recurses := true, plainKeys := false, apart := false }
def TopSumsSaid : Prop := topSumsRow.holds Try.pinned (OpenSpec.ofChange topSumsSpec)

/-- ITS FALSE NEIGHBOUR: 'it returns false'. Refute it at one input. -/
def topSumsWrong : ChangeSpec := { name := "topSums", fn := fun _ => fun
  | [d1, d2, d3, d4] => { results := [.lit (.bool false)], args := [d1, d2, d3, d4] }
  | _ => none }
def TopSumsWrongFalsely : Prop := topSumsRow.holds Try.pinned (OpenSpec.ofChange topSumsWrong)

/-- 'timbkeep1.GroupLagrange': WHATEVER THE INPUT: true; the input reads as it did. -/
def groupLagrangeSpec : ChangeSpec := { name := "groupLagrange", fn := fun _ => fun
  | [d1, d2, d3] => { results := [.lit (.bool true)], args := [d1, d2, d3] }
  | _ => none }
def groupLagrangeRow : OpenClaim := { program := "ytckopilciekfbaa", sum := "23b795c500d3396e6b2e91b9245e8a15fb84e8898b1d18ca1bfcd2dc1cd8d7dc", func := "timbrel/timbkeep1.GroupLagrange", spec := "groupLagrange", recurses := true, plainKeys := false, apart := false }
def GroupLagrangeSaid : Prop := groupLagrangeRow.holds Try.pinned (OpenSpec.ofChange groupLagrangeSpec)

/-- ITS FALSE NEIGHBOUR: 'it returns false'. Refute it at one input. -/
def groupLagrangeWrong : ChangeSpec := { name := "groupLagrange", fn := fun _ => fun
  | [d1, d2, d3] => { results := [.lit (.bool false)], args := [d1, d2, d3] }
  | _ => none }
def GroupLagrangeWrongFalsely : Prop := groupLagrangeRow.holds Try.pinned (OpenSpec.ofChange groupLagrangeWrong)

/- THE SECOND FORM. 'bulk': how many values and letters a reading holds, each counted each time it is reached (what is shared counts as often as it is met; a slice's spare places count too). A statement '..UptoSaid' is the law's where the arguments, and the package variables that the reading takes, are together of bulk at most 1048576: NARROWER than '..Said'. Prove '..Said' where nothing that the law and all that it calls make is longer than what came in: it says more and counts as full. Else prove '..UptoSaid'. A law counts once. -/
mutual
def uptoBulk {H : Type} : DataW H → Nat
  | .lit (.string bytes) => bytes.length + 1
  | .lit _ => 1
  | .nil => 1
  | .ptr d => uptoBulk d + 1
  | .slice elems spare => uptoBulkAll elems + uptoBulkAll spare + 1
  | .agg parts => uptoBulkAll parts + 1
  | .iface _ d => uptoBulk d + 1
  | .map entries => uptoBulkEntries entries + 1
  | .held _ => 1
def uptoBulkAll {H : Type} : List (DataW H) → Nat
  | [] => 0
  | d :: r => uptoBulk d + uptoBulkAll r
def uptoBulkEntries {H : Type} : List (Lit × DataW H) → Nat
  | [] => 0
  | x :: r => uptoBulkEntry x + uptoBulkEntries r
def uptoBulkEntry {H : Type} : Lit × DataW H → Nat
  | (.string bytes, d) => bytes.length + uptoBulk d + 1
  | (_, d) => uptoBulk d + 1
 end
def uptoSmall : (H : Type) → List (DataW H) → Bool := fun _ ds => decide (uptoBulkAll ds ≤ 1048576)
def OpenSpec.upto (s : _root_.Go.ChangeSpec) : _root_.Go.OpenSpec := { _root_.Go.OpenSpec.ofChange s with cond := some uptoSmall }

/-- 'timbkeep1.AlexanderParity', WHERE WHAT IT READS IS OF BULK AT MOST 1048576: true; the input reads as it did. -/
def alexanderParityUptoRow : OpenClaim := { program := "ytckopilciekfbaa", sum := "23b795c500d3396e6b2e91b9245e8a15fb84e8898b1d18ca1bfcd2dc1cd8d7dc", func := "timbrel/timbkeep1.AlexanderParity", spec := "alexanderParity", unfollowed := true, recurses := true, plainKeys := false, apart := false, narrowed := true }
def AlexanderParityUptoSaid : Prop := alexanderParityUptoRow.holds Try.pinned (OpenSpec.upto alexanderParitySpec)

/-- 'timbkeep1.AlexanderSymmetry', WHERE WHAT IT READS IS OF BULK AT MOST 1048576: true; the input reads as it did. -/
def alexanderSymmetryUptoRow : OpenClaim := { program := "ytckopilciekfbaa", sum := "23b795c500d3396e6b2e91b9245e8a15fb84e8898b1d18ca1bfcd2dc1cd8d7dc", func := "timbrel/timbkeep1.AlexanderSymmetry", spec := "alexanderSymmetry", unfollowed := true, recurses := true, plainKeys := false, apart := false, narrowed := true }
def AlexanderSymmetryUptoSaid : Prop := alexanderSymmetryUptoRow.holds Try.pinned (OpenSpec.upto alexanderSymmetrySpec)

/-- 'timbtop.TopTorus', WHERE WHAT IT READS IS OF BULK AT MOST 1048576: true; the input reads as it did. -/
def topTorusUptoRow : OpenClaim := { program := "ytckopilciekfbaa", sum := "23b795c500d3396e6b2e91b9245e8a15fb84e8898b1d18ca1bfcd2dc1cd8d7dc", func := "timbrel/timbtop.TopTorus", spec := "topTorus", unfollowed := true, recurses := true, plainKeys := false, apart := false, narrowed := true }
def TopTorusUptoSaid : Prop := topTorusUptoRow.holds Try.pinned (OpenSpec.upto topTorusSpec)

/-- 'timbkeep1.ColorCounts2', WHERE WHAT IT READS IS OF BULK AT MOST 1048576: true; the input reads as it did. -/
def colorCounts2UptoRow : OpenClaim := { program := "ytckopilciekfbaa", sum := "23b795c500d3396e6b2e91b9245e8a15fb84e8898b1d18ca1bfcd2dc1cd8d7dc", func := "timbrel/timbkeep1.ColorCounts2", spec := "colorCounts2", unfollowed := true, recurses := true, plainKeys := false, apart := false, narrowed := true }
def ColorCounts2UptoSaid : Prop := colorCounts2UptoRow.holds Try.pinned (OpenSpec.upto colorCounts2Spec)

/-- 'timbkeep1.ColorDeterminant', WHERE WHAT IT READS IS OF BULK AT MOST 1048576: true; the input reads as it did. -/
def colorDeterminantUptoRow : OpenClaim := { program := "ytckopilciekfbaa", sum := "23b795c500d3396e6b2e91b9245e8a15fb84e8898b1d18ca1bfcd2dc1cd8d7dc", func := "timbrel/timbkeep1.ColorDeterminant", spec := "colorDeterminant", unfollowed := true, recurses := true, plainKeys := false, apart := false, narrowed := true }
def ColorDeterminantUptoSaid : Prop := colorDeterminantUptoRow.holds Try.pinned (OpenSpec.upto colorDeterminantSpec)

/-- 'timbkeep1.JonesMirror', WHERE WHAT IT READS IS OF BULK AT MOST 1048576: true; the input reads as it did. -/
def jonesMirrorUptoRow : OpenClaim := { program := "ytckopilciekfbaa", sum := "23b795c500d3396e6b2e91b9245e8a15fb84e8898b1d18ca1bfcd2dc1cd8d7dc", func := "timbrel/timbkeep1.JonesMirror", spec := "jonesMirror", unfollowed := true, recurses := true, plainKeys := false, apart := false, narrowed := true }
def JonesMirrorUptoSaid : Prop := jonesMirrorUptoRow.holds Try.pinned (OpenSpec.upto jonesMirrorSpec)

/-- 'timbkeep1.JonesSkein', WHERE WHAT IT READS IS OF BULK AT MOST 1048576: true; the input reads as it did. -/
def jonesSkeinUptoRow : OpenClaim := { program := "ytckopilciekfbaa", sum := "23b795c500d3396e6b2e91b9245e8a15fb84e8898b1d18ca1bfcd2dc1cd8d7dc", func := "timbrel/timbkeep1.JonesSkein", spec := "jonesSkein", unfollowed := true, recurses := true, plainKeys := false, apart := false, narrowed := true }
def JonesSkeinUptoSaid : Prop := jonesSkeinUptoRow.holds Try.pinned (OpenSpec.upto jonesSkeinSpec)

/-- 'timbkeep1.JonesOne', WHERE WHAT IT READS IS OF BULK AT MOST 1048576: true; the input reads as it did. -/
def jonesOneUptoRow : OpenClaim := { program := "ytckopilciekfbaa", sum := "23b795c500d3396e6b2e91b9245e8a15fb84e8898b1d18ca1bfcd2dc1cd8d7dc", func := "timbrel/timbkeep1.JonesOne", spec := "jonesOne", unfollowed := true, recurses := true, plainKeys := false, apart := false, narrowed := true }
def JonesOneUptoSaid : Prop := jonesOneUptoRow.holds Try.pinned (OpenSpec.upto jonesOneSpec)

/-- 'timbkeep1.MatchingRelations', WHERE WHAT IT READS IS OF BULK AT MOST 1048576: true; the input reads as it did. -/
def matchingRelationsUptoRow : OpenClaim := { program := "ytckopilciekfbaa", sum := "23b795c500d3396e6b2e91b9245e8a15fb84e8898b1d18ca1bfcd2dc1cd8d7dc", func := "timbrel/timbkeep1.MatchingRelations", spec := "matchingRelations", unfollowed := true, recurses := true, plainKeys := false, apart := false, narrowed := true }
def MatchingRelationsUptoSaid : Prop := matchingRelationsUptoRow.holds Try.pinned (OpenSpec.upto matchingRelationsSpec)

/-- 'timbkeep1.MatchingStacks', WHERE WHAT IT READS IS OF BULK AT MOST 1048576: true; the input reads as it did. -/
def matchingStacksUptoRow : OpenClaim := { program := "ytckopilciekfbaa", sum := "23b795c500d3396e6b2e91b9245e8a15fb84e8898b1d18ca1bfcd2dc1cd8d7dc", func := "timbrel/timbkeep1.MatchingStacks", spec := "matchingStacks", unfollowed := true, recurses := true, plainKeys := false, apart := false, narrowed := true }
def MatchingStacksUptoSaid : Prop := matchingStacksUptoRow.holds Try.pinned (OpenSpec.upto matchingStacksSpec)

/-- 'timbkeep1.MatchingCounts', WHERE WHAT IT READS IS OF BULK AT MOST 1048576: true; the input reads as it did. -/
def matchingCountsUptoRow : OpenClaim := { program := "ytckopilciekfbaa", sum := "23b795c500d3396e6b2e91b9245e8a15fb84e8898b1d18ca1bfcd2dc1cd8d7dc", func := "timbrel/timbkeep1.MatchingCounts", spec := "matchingCounts", unfollowed := true, recurses := true, plainKeys := false, apart := false, narrowed := true }
def MatchingCountsUptoSaid : Prop := matchingCountsUptoRow.holds Try.pinned (OpenSpec.upto matchingCountsSpec)

/-- 'timbtop.TopSums', WHERE WHAT IT READS IS OF BULK AT MOST 1048576: true; the input reads as it did. -/
def topSumsUptoRow : OpenClaim := { program := "ytckopilciekfbaa", sum := "23b795c500d3396e6b2e91b9245e8a15fb84e8898b1d18ca1bfcd2dc1cd8d7dc", func := "timbrel/timbtop.TopSums", spec := "topSums", unfollowed := true, recurses := true, plainKeys := false, apart := false, narrowed := true }
def TopSumsUptoSaid : Prop := topSumsUptoRow.holds Try.pinned (OpenSpec.upto topSumsSpec)

/-- 'timbkeep1.GroupLagrange', WHERE WHAT IT READS IS OF BULK AT MOST 1048576: true; the input reads as it did. -/
def groupLagrangeUptoRow : OpenClaim := { program := "ytckopilciekfbaa", sum := "23b795c500d3396e6b2e91b9245e8a15fb84e8898b1d18ca1bfcd2dc1cd8d7dc", func := "timbrel/timbkeep1.GroupLagrange", spec := "groupLagrange", recurses := true, plainKeys := false, apart := false, narrowed := true }
def GroupLagrangeUptoSaid : Prop := groupLagrangeUptoRow.holds Try.pinned (OpenSpec.upto groupLagrangeSpec)

end Rows
end Go.Proofs.Ytckopilciekfbaa

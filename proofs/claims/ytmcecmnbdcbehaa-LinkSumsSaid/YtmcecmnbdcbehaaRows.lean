/-
  No cell of these rows narrows 'for every input' (looked for: loops, veiled, ifaces, maps, wideKeys, modest, calm, conditions, laid).
  DERIVED. THE GIVEN ROWS OF THIS SEAT. 13 by the template 'for every input the law returns true; each argument reads behind the call as it read before'; 0 by the template 'total and deterministic' (their statements: YtmcecmnbdcbehaaTotals.lean).
  GIVEN WITH THE SEED: the statements are not yours to turn. If you find one false, say at which input.
  Laid BY PROGRAM, IN A SANDBOX (cutbox-rows.mjs): the forced cells as the released guide's own fill.sh prints them over the translation 6962cb77d8422238… (all of the seat's roots in one cut). By AI agents, Wed Nov 11 2026. No macro, syntax, notation, axiom, sorry.
-/
import Derived.Test.YtmcecmnbdcbehaaChecked
import GoSem.Claim
import GoSem.ClaimJoined
import GoSem.ClaimMapViews
import Derived.JoinedTies
import Derived.KernelRfl
namespace Go.Proofs.Ytmcecmnbdcbehaa
/- THE CELL 'sum', in the pinned program and in every row, IS THE sha256 OF THE DUMP (.gsa) THAT YtmcecmnbdcbehaaProg.lean LOADS. Nothing in Lean hashes anything: it is a label: what it is worth is what the hold of that sum in a sandbox is worth. -/
noncomputable def Try.pinned : Pinned := { name := "ytmcecmnbdcbehaa", sum := "6962cb77d8422238b76b6665211716bdf57c48bedb96e495d8f7f6c3ce71f800", checked := Try.checked }
namespace Rows
def none {H : Type} : Left H := { results := [], args := [] }

/-- 'timbkeep1.PolyDetRows': WHATEVER THE INPUT: true; the input reads as it did. -/
def polyDetRowsSpec : ChangeSpec := { name := "polyDetRows", fn := fun _ => fun
  | [d1, d2, d3, d4] => { results := [.lit (.bool true)], args := [d1, d2, d3, d4] }
  | _ => none }
def polyDetRowsRow : OpenClaim := { program := "ytmcecmnbdcbehaa", sum := "6962cb77d8422238b76b6665211716bdf57c48bedb96e495d8f7f6c3ce71f800", func := "timbrel/timbkeep1.PolyDetRows", spec := "polyDetRows", unfollowed := true, recurses := true, apart := false }
def PolyDetRowsSaid : Prop := polyDetRowsRow.holds Try.pinned (OpenSpec.ofChange polyDetRowsSpec)

/-- ITS FALSE NEIGHBOUR: 'it returns false'. Refute it at one input. -/
def polyDetRowsWrong : ChangeSpec := { name := "polyDetRows", fn := fun _ => fun
  | [d1, d2, d3, d4] => { results := [.lit (.bool false)], args := [d1, d2, d3, d4] }
  | _ => none }
def PolyDetRowsWrongFalsely : Prop := polyDetRowsRow.holds Try.pinned (OpenSpec.ofChange polyDetRowsWrong)

/-- 'timbkeep1.MatchingRelations': WHATEVER THE INPUT: true; the input reads as it did. -/
def matchingRelationsSpec : ChangeSpec := { name := "matchingRelations", fn := fun _ => fun
  | [d1, d2, d3] => { results := [.lit (.bool true)], args := [d1, d2, d3] }
  | _ => none }
def matchingRelationsRow : OpenClaim := { program := "ytmcecmnbdcbehaa", sum := "6962cb77d8422238b76b6665211716bdf57c48bedb96e495d8f7f6c3ce71f800", func := "timbrel/timbkeep1.MatchingRelations", spec := "matchingRelations", unfollowed := true, recurses := true, apart := false }
def MatchingRelationsSaid : Prop := matchingRelationsRow.holds Try.pinned (OpenSpec.ofChange matchingRelationsSpec)

/-- ITS FALSE NEIGHBOUR: 'it returns false'. Refute it at one input. -/
def matchingRelationsWrong : ChangeSpec := { name := "matchingRelations", fn := fun _ => fun
  | [d1, d2, d3] => { results := [.lit (.bool false)], args := [d1, d2, d3] }
  | _ => none }
def MatchingRelationsWrongFalsely : Prop := matchingRelationsRow.holds Try.pinned (OpenSpec.ofChange matchingRelationsWrong)

/-- 'timbkeep1.MatchingStacks': WHATEVER THE INPUT: true; the input reads as it did. -/
def matchingStacksSpec : ChangeSpec := { name := "matchingStacks", fn := fun _ => fun
  | [d1, d2, d3, d4] => { results := [.lit (.bool true)], args := [d1, d2, d3, d4] }
  | _ => none }
def matchingStacksRow : OpenClaim := { program := "ytmcecmnbdcbehaa", sum := "6962cb77d8422238b76b6665211716bdf57c48bedb96e495d8f7f6c3ce71f800", func := "timbrel/timbkeep1.MatchingStacks", spec := "matchingStacks", unfollowed := true, recurses := true, apart := false }
def MatchingStacksSaid : Prop := matchingStacksRow.holds Try.pinned (OpenSpec.ofChange matchingStacksSpec)

/-- ITS FALSE NEIGHBOUR: 'it returns false'. Refute it at one input. -/
def matchingStacksWrong : ChangeSpec := { name := "matchingStacks", fn := fun _ => fun
  | [d1, d2, d3, d4] => { results := [.lit (.bool false)], args := [d1, d2, d3, d4] }
  | _ => none }
def MatchingStacksWrongFalsely : Prop := matchingStacksRow.holds Try.pinned (OpenSpec.ofChange matchingStacksWrong)

/-- 'timbkeep1.MatchingCounts': WHATEVER THE INPUT: true; the input reads as it did. -/
def matchingCountsSpec : ChangeSpec := { name := "matchingCounts", fn := fun _ => fun
  | [d1, d2] => { results := [.lit (.bool true)], args := [d1, d2] }
  | _ => none }
def matchingCountsRow : OpenClaim := { program := "ytmcecmnbdcbehaa", sum := "6962cb77d8422238b76b6665211716bdf57c48bedb96e495d8f7f6c3ce71f800", func := "timbrel/timbkeep1.MatchingCounts", spec := "matchingCounts", unfollowed := true, recurses := true, apart := false }
def MatchingCountsSaid : Prop := matchingCountsRow.holds Try.pinned (OpenSpec.ofChange matchingCountsSpec)

/-- ITS FALSE NEIGHBOUR: 'it returns false'. Refute it at one input. -/
def matchingCountsWrong : ChangeSpec := { name := "matchingCounts", fn := fun _ => fun
  | [d1, d2] => { results := [.lit (.bool false)], args := [d1, d2] }
  | _ => none }
def MatchingCountsWrongFalsely : Prop := matchingCountsRow.holds Try.pinned (OpenSpec.ofChange matchingCountsWrong)

/-- 'timbkeep1.MarkovLocal': WHATEVER THE INPUT: true; the input reads as it did. -/
def markovLocalSpec : ChangeSpec := { name := "markovLocal", fn := fun _ => fun
  | [d1, d2, d3, d4, d5] => { results := [.lit (.bool true)], args := [d1, d2, d3, d4, d5] }
  | _ => none }
def markovLocalRow : OpenClaim := { program := "ytmcecmnbdcbehaa", sum := "6962cb77d8422238b76b6665211716bdf57c48bedb96e495d8f7f6c3ce71f800", func := "timbrel/timbkeep1.MarkovLocal", spec := "markovLocal", unfollowed := true, recurses := true, apart := false }
def MarkovLocalSaid : Prop := markovLocalRow.holds Try.pinned (OpenSpec.ofChange markovLocalSpec)

/-- ITS FALSE NEIGHBOUR: 'it returns false'. Refute it at one input. -/
def markovLocalWrong : ChangeSpec := { name := "markovLocal", fn := fun _ => fun
  | [d1, d2, d3, d4, d5] => { results := [.lit (.bool false)], args := [d1, d2, d3, d4, d5] }
  | _ => none }
def MarkovLocalWrongFalsely : Prop := markovLocalRow.holds Try.pinned (OpenSpec.ofChange markovLocalWrong)

/-- 'timbtop.TopFox': WHATEVER THE INPUT: true; the input reads as it did. -/
def topFoxSpec : ChangeSpec := { name := "topFox", fn := fun _ => fun
  | [d1, d2] => { results := [.lit (.bool true)], args := [d1, d2] }
  | _ => none }
def topFoxRow : OpenClaim := { program := "ytmcecmnbdcbehaa", sum := "6962cb77d8422238b76b6665211716bdf57c48bedb96e495d8f7f6c3ce71f800", func := "timbrel/timbtop.TopFox", spec := "topFox", unfollowed := true, recurses := true, apart := false }
def TopFoxSaid : Prop := topFoxRow.holds Try.pinned (OpenSpec.ofChange topFoxSpec)

/-- ITS FALSE NEIGHBOUR: 'it returns false'. Refute it at one input. -/
def topFoxWrong : ChangeSpec := { name := "topFox", fn := fun _ => fun
  | [d1, d2] => { results := [.lit (.bool false)], args := [d1, d2] }
  | _ => none }
def TopFoxWrongFalsely : Prop := topFoxRow.holds Try.pinned (OpenSpec.ofChange topFoxWrong)

/-- 'timbkeep1.PermSigns': WHATEVER THE INPUT: true; the input reads as it did. -/
def permSignsSpec : ChangeSpec := { name := "permSigns", fn := fun _ => fun
  | [d1, d2, d3] => { results := [.lit (.bool true)], args := [d1, d2, d3] }
  | _ => none }
def permSignsRow : OpenClaim := { program := "ytmcecmnbdcbehaa", sum := "6962cb77d8422238b76b6665211716bdf57c48bedb96e495d8f7f6c3ce71f800", func := "timbrel/timbkeep1.PermSigns", spec := "permSigns", unfollowed := true, recurses := true, apart := false }
def PermSignsSaid : Prop := permSignsRow.holds Try.pinned (OpenSpec.ofChange permSignsSpec)

/-- ITS FALSE NEIGHBOUR: 'it returns false'. Refute it at one input. -/
def permSignsWrong : ChangeSpec := { name := "permSigns", fn := fun _ => fun
  | [d1, d2, d3] => { results := [.lit (.bool false)], args := [d1, d2, d3] }
  | _ => none }
def PermSignsWrongFalsely : Prop := permSignsRow.holds Try.pinned (OpenSpec.ofChange permSignsWrong)

/-- 'timbkeep1.LinkSums': WHATEVER THE INPUT: true; the input reads as it did. -/
def linkSumsSpec : ChangeSpec := { name := "linkSums", fn := fun _ => fun
  | [d1, d2] => { results := [.lit (.bool true)], args := [d1, d2] }
  | _ => none }
def linkSumsRow : OpenClaim := { program := "ytmcecmnbdcbehaa", sum := "6962cb77d8422238b76b6665211716bdf57c48bedb96e495d8f7f6c3ce71f800", func := "timbrel/timbkeep1.LinkSums", spec := "linkSums", unfollowed := true, recurses := true, apart := false }
def LinkSumsSaid : Prop := linkSumsRow.holds Try.pinned (OpenSpec.ofChange linkSumsSpec)

/-- ITS FALSE NEIGHBOUR: 'it returns false'. Refute it at one input. -/
def linkSumsWrong : ChangeSpec := { name := "linkSums", fn := fun _ => fun
  | [d1, d2] => { results := [.lit (.bool false)], args := [d1, d2] }
  | _ => none }
def LinkSumsWrongFalsely : Prop := linkSumsRow.holds Try.pinned (OpenSpec.ofChange linkSumsWrong)

/-- 'timbkeep1.ColorCounts2': WHATEVER THE INPUT: true; the input reads as it did. -/
def colorCounts2Spec : ChangeSpec := { name := "colorCounts2", fn := fun _ => fun
  | [d1, d2, d3] => { results := [.lit (.bool true)], args := [d1, d2, d3] }
  | _ => none }
def colorCounts2Row : OpenClaim := { program := "ytmcecmnbdcbehaa", sum := "6962cb77d8422238b76b6665211716bdf57c48bedb96e495d8f7f6c3ce71f800", func := "timbrel/timbkeep1.ColorCounts2", spec := "colorCounts2", unfollowed := true, recurses := true, apart := false }
def ColorCounts2Said : Prop := colorCounts2Row.holds Try.pinned (OpenSpec.ofChange colorCounts2Spec)

/-- ITS FALSE NEIGHBOUR: 'it returns false'. Refute it at one input. -/
def colorCounts2Wrong : ChangeSpec := { name := "colorCounts2", fn := fun _ => fun
  | [d1, d2, d3] => { results := [.lit (.bool false)], args := [d1, d2, d3] }
  | _ => none }
def ColorCounts2WrongFalsely : Prop := colorCounts2Row.holds Try.pinned (OpenSpec.ofChange colorCounts2Wrong)

/-- 'timbkeep1.ColorDeterminant': WHATEVER THE INPUT: true; the input reads as it did. -/
def colorDeterminantSpec : ChangeSpec := { name := "colorDeterminant", fn := fun _ => fun
  | [d1, d2, d3] => { results := [.lit (.bool true)], args := [d1, d2, d3] }
  | _ => none }
def colorDeterminantRow : OpenClaim := { program := "ytmcecmnbdcbehaa", sum := "6962cb77d8422238b76b6665211716bdf57c48bedb96e495d8f7f6c3ce71f800", func := "timbrel/timbkeep1.ColorDeterminant", spec := "colorDeterminant", unfollowed := true, recurses := true, apart := false }
def ColorDeterminantSaid : Prop := colorDeterminantRow.holds Try.pinned (OpenSpec.ofChange colorDeterminantSpec)

/-- ITS FALSE NEIGHBOUR: 'it returns false'. Refute it at one input. -/
def colorDeterminantWrong : ChangeSpec := { name := "colorDeterminant", fn := fun _ => fun
  | [d1, d2, d3] => { results := [.lit (.bool false)], args := [d1, d2, d3] }
  | _ => none }
def ColorDeterminantWrongFalsely : Prop := colorDeterminantRow.holds Try.pinned (OpenSpec.ofChange colorDeterminantWrong)

/-- 'timbkeep1.AlexanderParity': WHATEVER THE INPUT: true; the input reads as it did. -/
def alexanderParitySpec : ChangeSpec := { name := "alexanderParity", fn := fun _ => fun
  | [d1, d2] => { results := [.lit (.bool true)], args := [d1, d2] }
  | _ => none }
def alexanderParityRow : OpenClaim := { program := "ytmcecmnbdcbehaa", sum := "6962cb77d8422238b76b6665211716bdf57c48bedb96e495d8f7f6c3ce71f800", func := "timbrel/timbkeep1.AlexanderParity", spec := "alexanderParity", unfollowed := true, recurses := true, apart := false }
def AlexanderParitySaid : Prop := alexanderParityRow.holds Try.pinned (OpenSpec.ofChange alexanderParitySpec)

/-- ITS FALSE NEIGHBOUR: 'it returns false'. Refute it at one input. -/
def alexanderParityWrong : ChangeSpec := { name := "alexanderParity", fn := fun _ => fun
  | [d1, d2] => { results := [.lit (.bool false)], args := [d1, d2] }
  | _ => none }
def AlexanderParityWrongFalsely : Prop := alexanderParityRow.holds Try.pinned (OpenSpec.ofChange alexanderParityWrong)

/-- 'timbkeep1.AlexanderSymmetry': WHATEVER THE INPUT: true; the input reads as it did. -/
def alexanderSymmetrySpec : ChangeSpec := { name := "alexanderSymmetry", fn := fun _ => fun
  | [d1, d2] => { results := [.lit (.bool true)], args := [d1, d2] }
  | _ => none }
def alexanderSymmetryRow : OpenClaim := { program := "ytmcecmnbdcbehaa", sum := "6962cb77d8422238b76b6665211716bdf57c48bedb96e495d8f7f6c3ce71f800", func := "timbrel/timbkeep1.AlexanderSymmetry", spec := "alexanderSymmetry", unfollowed := true, recurses := true, apart := false }
def AlexanderSymmetrySaid : Prop := alexanderSymmetryRow.holds Try.pinned (OpenSpec.ofChange alexanderSymmetrySpec)

/-- ITS FALSE NEIGHBOUR: 'it returns false'. Refute it at one input. -/
def alexanderSymmetryWrong : ChangeSpec := { name := "alexanderSymmetry", fn := fun _ => fun
  | [d1, d2] => { results := [.lit (.bool false)], args := [d1, d2] }
  | _ => none }
def AlexanderSymmetryWrongFalsely : Prop := alexanderSymmetryRow.holds Try.pinned (OpenSpec.ofChange alexanderSymmetryWrong)

/-- 'timbkeep1.GroupLagrange': WHATEVER THE INPUT: true; the input reads as it did. -/
def groupLagrangeSpec : ChangeSpec := { name := "groupLagrange", fn := fun _ => fun
  | [d1, d2, d3] => { results := [.lit (.bool true)], args := [d1, d2, d3] }
  | _ => none }
def groupLagrangeRow : OpenClaim := { program := "ytmcecmnbdcbehaa", sum := "6962cb77d8422238b76b6665211716bdf57c48bedb96e495d8f7f6c3ce71f800", func := "timbrel/timbkeep1.GroupLagrange", spec := "groupLagrange", recurses := true, apart := false }
def GroupLagrangeSaid : Prop := groupLagrangeRow.holds Try.pinned (OpenSpec.ofChange groupLagrangeSpec)

/-- ITS FALSE NEIGHBOUR: 'it returns false'. Refute it at one input. -/
def groupLagrangeWrong : ChangeSpec := { name := "groupLagrange", fn := fun _ => fun
  | [d1, d2, d3] => { results := [.lit (.bool false)], args := [d1, d2, d3] }
  | _ => none }
def GroupLagrangeWrongFalsely : Prop := groupLagrangeRow.holds Try.pinned (OpenSpec.ofChange groupLagrangeWrong)

/- THE SECOND FORM. 'bulk': how many values and letters a reading holds, each counted each time it is reached (what is shared counts as often as it is met; a slice's spare places count too). A statement '..UptoSaid' is the law's where the arguments, and the package variables that the reading takes, are together of bulk at most 1048576: NARROWER than '..Said'. Prove '..Said' where nothing that the law and all that it calls make is longer than what came in: it says more and counts as full. Else prove '..UptoSaid'. A law counts once. -/
mutual
def uptoBulk {H : Type} : DataW H → Nat
  | .lit (.string bytes) => bytes.length + 1
  | .lit _ => 1
  | .nil => 1
  | .ptr d => uptoBulk d + 1
  | .slice elems spare => uptoBulkAll elems + uptoBulkAll spare + 1
  | .agg parts => uptoBulkAll parts + 1
  | .iface _ d => uptoBulk d + 1
  | .map entries => uptoBulkEntries entries + 1
  | .held _ => 1
def uptoBulkAll {H : Type} : List (DataW H) → Nat
  | [] => 0
  | d :: r => uptoBulk d + uptoBulkAll r
def uptoBulkEntries {H : Type} : List (Lit × DataW H) → Nat
  | [] => 0
  | x :: r => uptoBulkEntry x + uptoBulkEntries r
def uptoBulkEntry {H : Type} : Lit × DataW H → Nat
  | (.string bytes, d) => bytes.length + uptoBulk d + 1
  | (_, d) => uptoBulk d + 1
 end
def uptoSmall : (H : Type) → List (DataW H) → Bool := fun _ ds => decide (uptoBulkAll ds ≤ 1048576)
def OpenSpec.upto (s : _root_.Go.ChangeSpec) : _root_.Go.OpenSpec := { _root_.Go.OpenSpec.ofChange s with cond := some uptoSmall }

/-- 'timbkeep1.PolyDetRows', WHERE WHAT IT READS IS OF BULK AT MOST 1048576: true; the input reads as it did. -/
def polyDetRowsUptoRow : OpenClaim := { program := "ytmcecmnbdcbehaa", sum := "6962cb77d8422238b76b6665211716bdf57c48bedb96e495d8f7f6c3ce71f800", func := "timbrel/timbkeep1.PolyDetRows", spec := "polyDetRows", unfollowed := true, recurses := true, apart := false, narrowed := true }
def PolyDetRowsUptoSaid : Prop := polyDetRowsUptoRow.holds Try.pinned (OpenSpec.upto polyDetRowsSpec)

/-- 'timbkeep1.MatchingRelations', WHERE WHAT IT READS IS OF BULK AT MOST 1048576: true; the input reads as it did. -/
def matchingRelationsUptoRow : OpenClaim := { program := "ytmcecmnbdcbehaa", sum := "6962cb77d8422238b76b6665211716bdf57c48bedb96e495d8f7f6c3ce71f800", func := "timbrel/timbkeep1.MatchingRelations", spec := "matchingRelations", unfollowed := true, recurses := true, apart := false, narrowed := true }
def MatchingRelationsUptoSaid : Prop := matchingRelationsUptoRow.holds Try.pinned (OpenSpec.upto matchingRelationsSpec)

/-- 'timbkeep1.MatchingStacks', WHERE WHAT IT READS IS OF BULK AT MOST 1048576: true; the input reads as it did. -/
def matchingStacksUptoRow : OpenClaim := { program := "ytmcecmnbdcbehaa", sum := "6962cb77d8422238b76b6665211716bdf57c48bedb96e495d8f7f6c3ce71f800", func := "timbrel/timbkeep1.MatchingStacks", spec := "matchingStacks", unfollowed := true, recurses := true, apart := false, narrowed := true }
def MatchingStacksUptoSaid : Prop := matchingStacksUptoRow.holds Try.pinned (OpenSpec.upto matchingStacksSpec)

/-- 'timbkeep1.MatchingCounts', WHERE WHAT IT READS IS OF BULK AT MOST 1048576: true; the input reads as it did. -/
def matchingCountsUptoRow : OpenClaim := { program := "ytmcecmnbdcbehaa", sum := "6962cb77d8422238b76b6665211716bdf57c48bedb96e495d8f7f6c3ce71f800", func := "timbrel/timbkeep1.MatchingCounts", spec := "matchingCounts", unfollowed := true, recurses := true, apart := false, narrowed := true }
def MatchingCountsUptoSaid : Prop := matchingCountsUptoRow.holds Try.pinned (OpenSpec.upto matchingCountsSpec)

/-- 'timbkeep1.MarkovLocal', WHERE WHAT IT READS IS OF BULK AT MOST 1048576: true; the input reads as it did. -/
def markovLocalUptoRow : OpenClaim := { program := "ytmcecmnbdcbehaa", sum := "6962cb77d8422238b76b6665211716bdf57c48bedb96e495d8f7f6c3ce71f800", func := "timbrel/timbkeep1.MarkovLocal", spec := "markovLocal", unfollowed := true, recurses := true, apart := false, narrowed := true }
def MarkovLocalUptoSaid : Prop := markovLocalUptoRow.holds Try.pinned (OpenSpec.upto markovLocalSpec)

/-- 'timbtop.TopFox', WHERE WHAT IT READS IS OF BULK AT MOST 1048576: true; the input reads as it did. -/
def topFoxUptoRow : OpenClaim := { program := "ytmcecmnbdcbehaa", sum := "6962cb77d8422238b76b6665211716bdf57c48bedb96e495d8f7f6c3ce71f800", func := "timbrel/timbtop.TopFox", spec := "topFox", unfollowed := true, recurses := true, apart := false, narrowed := true }
def TopFoxUptoSaid : Prop := topFoxUptoRow.holds Try.pinned (OpenSpec.upto topFoxSpec)

/-- 'timbkeep1.PermSigns', WHERE WHAT IT READS IS OF BULK AT MOST 1048576: true; the input reads as it did. -/
def permSignsUptoRow : OpenClaim := { program := "ytmcecmnbdcbehaa", sum := "6962cb77d8422238b76b6665211716bdf57c48bedb96e495d8f7f6c3ce71f800", func := "timbrel/timbkeep1.PermSigns", spec := "permSigns", unfollowed := true, recurses := true, apart := false, narrowed := true }
def PermSignsUptoSaid : Prop := permSignsUptoRow.holds Try.pinned (OpenSpec.upto permSignsSpec)

/-- 'timbkeep1.LinkSums', WHERE WHAT IT READS IS OF BULK AT MOST 1048576: true; the input reads as it did. -/
def linkSumsUptoRow : OpenClaim := { program := "ytmcecmnbdcbehaa", sum := "6962cb77d8422238b76b6665211716bdf57c48bedb96e495d8f7f6c3ce71f800", func := "timbrel/timbkeep1.LinkSums", spec := "linkSums", unfollowed := true, recurses := true, apart := false, narrowed := true }
def LinkSumsUptoSaid : Prop := linkSumsUptoRow.holds Try.pinned (OpenSpec.upto linkSumsSpec)

/-- 'timbkeep1.ColorCounts2', WHERE WHAT IT READS IS OF BULK AT MOST 1048576: true; the input reads as it did. -/
def colorCounts2UptoRow : OpenClaim := { program := "ytmcecmnbdcbehaa", sum := "6962cb77d8422238b76b6665211716bdf57c48bedb96e495d8f7f6c3ce71f800", func := "timbrel/timbkeep1.ColorCounts2", spec := "colorCounts2", unfollowed := true, recurses := true, apart := false, narrowed := true }
def ColorCounts2UptoSaid : Prop := colorCounts2UptoRow.holds Try.pinned (OpenSpec.upto colorCounts2Spec)

/-- 'timbkeep1.ColorDeterminant', WHERE WHAT IT READS IS OF BULK AT MOST 1048576: true; the input reads as it did. -/
def colorDeterminantUptoRow : OpenClaim := { program := "ytmcecmnbdcbehaa", sum := "6962cb77d8422238b76b6665211716bdf57c48bedb96e495d8f7f6c3ce71f800", func := "timbrel/timbkeep1.ColorDeterminant", spec := "colorDeterminant", unfollowed := true, recurses := true, apart := false, narrowed := true }
def ColorDeterminantUptoSaid : Prop := colorDeterminantUptoRow.holds Try.pinned (OpenSpec.upto colorDeterminantSpec)

/-- 'timbkeep1.AlexanderParity', WHERE WHAT IT READS IS OF BULK AT MOST 1048576: true; the input reads as it did. -/
def alexanderParityUptoRow : OpenClaim := { program := "ytmcecmnbdcbehaa", sum := "6962cb77d8422238b76b6665211716bdf57c48bedb96e495d8f7f6c3ce71f800", func := "timbrel/timbkeep1.AlexanderParity", spec := "alexanderParity", unfollowed := true, recurses := true, apart := false, narrowed := true }
def AlexanderParityUptoSaid : Prop := alexanderParityUptoRow.holds Try.pinned (OpenSpec.upto alexanderParitySpec)

/-- 'timbkeep1.AlexanderSymmetry', WHERE WHAT IT READS IS OF BULK AT MOST 1048576: true; the input reads as it did. -/
def alexanderSymmetryUptoRow : OpenClaim := { program := "ytmcecmnbdcbehaa", sum := "6962cb77d8422238b76b6665211716bdf57c48bedb96e495d8f7f6c3ce71f800", func := "timbrel/timbkeep1.AlexanderSymmetry", spec := "alexanderSymmetry", unfollowed := true, recurses := true, apart := false, narrowed := true }
def AlexanderSymmetryUptoSaid : Prop := alexanderSymmetryUptoRow.holds Try.pinned (OpenSpec.upto alexanderSymmetrySpec)

/-- 'timbkeep1.GroupLagrange', WHERE WHAT IT READS IS OF BULK AT MOST 1048576: true; the input reads as it did. -/
def groupLagrangeUptoRow : OpenClaim := { program := "ytmcecmnbdcbehaa", sum := "6962cb77d8422238b76b6665211716bdf57c48bedb96e495d8f7f6c3ce71f800", func := "timbrel/timbkeep1.GroupLagrange", spec := "groupLagrange", recurses := true, apart := false, narrowed := true }
def GroupLagrangeUptoSaid : Prop := groupLagrangeUptoRow.holds Try.pinned (OpenSpec.upto groupLagrangeSpec)

end Rows
end Go.Proofs.Ytmcecmnbdcbehaa

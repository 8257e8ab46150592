/-
  No cell of these rows narrows 'for every input' (looked for: loops, veiled, ifaces, maps, wideKeys, modest, calm, conditions, laid).
  DERIVED. THE GIVEN ROWS OF THIS SEAT. 10 by the template 'for every input the law returns true; each argument reads behind the call as it read before'; 0 by the template 'total and deterministic' (their statements: YtplekfgadbjgdaaTotals.lean).
  GIVEN WITH THE SEED: the statements are not yours to turn. If you find one false, say at which input.
  Laid BY PROGRAM, IN A SANDBOX (cutbox-rows.mjs): the forced cells as the released guide's own fill.sh prints them over the translation 8854d3dc3302b3b5… (all of the seat's roots in one cut). By AI agents, Wed Nov 11 2026. No macro, syntax, notation, axiom, sorry.
-/
import Derived.Test.YtplekfgadbjgdaaChecked
import GoSem.Claim
import GoSem.ClaimJoined
import GoSem.ClaimMapViews
import Derived.JoinedTies
import Derived.KernelRfl
namespace Go.Proofs.Ytplekfgadbjgdaa
/- THE CELL 'sum', in the pinned program and in every row, IS THE sha256 OF THE DUMP (.gsa) THAT YtplekfgadbjgdaaProg.lean LOADS. Nothing in Lean hashes anything: it is a label: what it is worth is what the hold of that sum in a sandbox is worth. -/
noncomputable def Try.pinned : Pinned := { name := "ytplekfgadbjgdaa", sum := "8854d3dc3302b3b5093a2064ff302af96112ef6e5820399e059b65cfa4dda337", checked := Try.checked }
namespace Rows
def none {H : Type} : Left H := { results := [], args := [] }

/-- 'timbkeep1.MatchingCounts': WHATEVER THE INPUT: true; the input reads as it did. -/
def matchingCountsSpec : ChangeSpec := { name := "matchingCounts", fn := fun _ => fun
  | [d1, d2] => { results := [.lit (.bool true)], args := [d1, d2] }
  | _ => none }
def matchingCountsRow : OpenClaim := { program := "ytplekfgadbjgdaa", sum := "8854d3dc3302b3b5093a2064ff302af96112ef6e5820399e059b65cfa4dda337", func := "timbrel/timbkeep1.MatchingCounts", spec := "matchingCounts", unfollowed := true, recurses := true, plainKeys := false, apart := false }
def MatchingCountsSaid : Prop := matchingCountsRow.holds Try.pinned (OpenSpec.ofChange matchingCountsSpec)

/-- ITS FALSE NEIGHBOUR: 'it returns false'. Refute it at one input. -/
def matchingCountsWrong : ChangeSpec := { name := "matchingCounts", fn := fun _ => fun
  | [d1, d2] => { results := [.lit (.bool false)], args := [d1, d2] }
  | _ => none }
def MatchingCountsWrongFalsely : Prop := matchingCountsRow.holds Try.pinned (OpenSpec.ofChange matchingCountsWrong)

/-- 'timbtop.TopSums': WHATEVER THE INPUT: true; the input reads as it did. -/
def topSumsSpec : ChangeSpec := { name := "topSums", fn := fun _ => fun
  | [d1, d2, d3, d4] => { results := [.lit (.bool true)], args := [d1, d2, d3, d4] }
  | _ => none }
def topSumsRow : OpenClaim := { program := "ytplekfgadbjgdaa", sum := "8854d3dc3302b3b5093a2064ff302af96112ef6e5820399e059b65cfa4dda337", func := "timbrel/timbtop.TopSums", spec := "topSums", unfollowed := true, recurses := true, plainKeys := false, apart := false }
def TopSumsSaid : Prop := topSumsRow.holds Try.pinned (OpenSpec.ofChange topSumsSpec)

/-- ITS FALSE NEIGHBOUR: 'it returns false'. Refute it at one input. -/
def topSumsWrong : ChangeSpec := { name := "topSums", fn := fun _ => fun
  | [d1, d2, d3, d4] => { results := [.lit (.bool false)], args := [d1, d2, d3, d4] }
  | _ => none }
def TopSumsWrongFalsely : Prop := topSumsRow.holds Try.pinned (OpenSpec.ofChange topSumsWrong)

/-- 'timbkeep1.GroupLagrange': WHATEVER THE INPUT: true; the input reads as it did. -/
def groupLagrangeSpec : ChangeSpec := { name := "groupLagrange", fn := fun _ => fun
  | [d1, d2, d3] => { results := [.lit (.bool true)], args := [d1, d2, d3] }
  | _ => none }
def groupLagrangeRow : OpenClaim := { program := "ytplekfgadbjgdaa", sum := "8854d3dc3302b3b5093a2064ff302af96112ef6e5820399e059b65cfa4dda337", func := "timbrel/timbkeep1.GroupLagrange", spec := "groupLagrange", recurses := true, plainKeys := false, apart := false }
def GroupLagrangeSaid : Prop := groupLagrangeRow.holds Try.pinned (OpenSpec.ofChange groupLagrangeSpec)

/-- ITS FALSE NEIGHBOUR: 'it returns false'. Refute it at one input. -/
def groupLagrangeWrong : ChangeSpec := { name := "groupLagrange", fn := fun _ => fun
  | [d1, d2, d3] => { results := [.lit (.bool false)], args := [d1, d2, d3] }
  | _ => none }
def GroupLagrangeWrongFalsely : Prop := groupLagrangeRow.holds Try.pinned (OpenSpec.ofChange groupLagrangeWrong)

/-- 'timbkeep1.GroupWords': WHATEVER THE INPUT: true; the input reads as it did. -/
def groupWordsSpec : ChangeSpec := { name := "groupWords", fn := fun _ => fun
  | [d1, d2, d3] => { results := [.lit (.bool true)], args := [d1, d2, d3] }
  | _ => none }
def groupWordsRow : OpenClaim := { program := "ytplekfgadbjgdaa", sum := "8854d3dc3302b3b5093a2064ff302af96112ef6e5820399e059b65cfa4dda337", func := "timbrel/timbkeep1.GroupWords", spec := "groupWords", unfollowed := true, recurses := true, plainKeys := false, apart := false }
def GroupWordsSaid : Prop := groupWordsRow.holds Try.pinned (OpenSpec.ofChange groupWordsSpec)

/-- ITS FALSE NEIGHBOUR: 'it returns false'. Refute it at one input. -/
def groupWordsWrong : ChangeSpec := { name := "groupWords", fn := fun _ => fun
  | [d1, d2, d3] => { results := [.lit (.bool false)], args := [d1, d2, d3] }
  | _ => none }
def GroupWordsWrongFalsely : Prop := groupWordsRow.holds Try.pinned (OpenSpec.ofChange groupWordsWrong)

/-- 'timbkeep1.GroupOrbitStabilizer': WHATEVER THE INPUT: true; the input reads as it did. -/
def groupOrbitStabilizerSpec : ChangeSpec := { name := "groupOrbitStabilizer", fn := fun _ => fun
  | [d1, d2] => { results := [.lit (.bool true)], args := [d1, d2] }
  | _ => none }
def groupOrbitStabilizerRow : OpenClaim := { program := "ytplekfgadbjgdaa", sum := "8854d3dc3302b3b5093a2064ff302af96112ef6e5820399e059b65cfa4dda337", func := "timbrel/timbkeep1.GroupOrbitStabilizer", spec := "groupOrbitStabilizer", unfollowed := true, recurses := true, plainKeys := false, apart := false }
def GroupOrbitStabilizerSaid : Prop := groupOrbitStabilizerRow.holds Try.pinned (OpenSpec.ofChange groupOrbitStabilizerSpec)

/-- ITS FALSE NEIGHBOUR: 'it returns false'. Refute it at one input. -/
def groupOrbitStabilizerWrong : ChangeSpec := { name := "groupOrbitStabilizer", fn := fun _ => fun
  | [d1, d2] => { results := [.lit (.bool false)], args := [d1, d2] }
  | _ => none }
def GroupOrbitStabilizerWrongFalsely : Prop := groupOrbitStabilizerRow.holds Try.pinned (OpenSpec.ofChange groupOrbitStabilizerWrong)

/-- 'timbtop.TopRinging': WHATEVER THE INPUT: true; the input reads as it did. -/
def topRingingSpec : ChangeSpec := { name := "topRinging", fn := fun _ => fun
  | [d1, d2] => { results := [.lit (.bool true)], args := [d1, d2] }
  | _ => none }
def topRingingRow : OpenClaim := { program := "ytplekfgadbjgdaa", sum := "8854d3dc3302b3b5093a2064ff302af96112ef6e5820399e059b65cfa4dda337", func := "timbrel/timbtop.TopRinging", spec := "topRinging", unfollowed := true, recurses := true, plainKeys := false, apart := false }
def TopRingingSaid : Prop := topRingingRow.holds Try.pinned (OpenSpec.ofChange topRingingSpec)

/-- ITS FALSE NEIGHBOUR: 'it returns false'. Refute it at one input. -/
def topRingingWrong : ChangeSpec := { name := "topRinging", fn := fun _ => fun
  | [d1, d2] => { results := [.lit (.bool false)], args := [d1, d2] }
  | _ => none }
def TopRingingWrongFalsely : Prop := topRingingRow.holds Try.pinned (OpenSpec.ofChange topRingingWrong)

/-- 'timbkeep1.DehornoyRelations': WHATEVER THE INPUT: true; the input reads as it did. -/
def dehornoyRelationsSpec : ChangeSpec := { name := "dehornoyRelations", fn := fun _ => fun
  | [d1, d2, d3, d4, d5] => { results := [.lit (.bool true)], args := [d1, d2, d3, d4, d5] }
  | _ => none }
def dehornoyRelationsRow : OpenClaim := { program := "ytplekfgadbjgdaa", sum := "8854d3dc3302b3b5093a2064ff302af96112ef6e5820399e059b65cfa4dda337", func := "timbrel/timbkeep1.DehornoyRelations", spec := "dehornoyRelations", unfollowed := true, recurses := true, plainKeys := false, apart := false }
def DehornoyRelationsSaid : Prop := dehornoyRelationsRow.holds Try.pinned (OpenSpec.ofChange dehornoyRelationsSpec)

/-- ITS FALSE NEIGHBOUR: 'it returns false'. Refute it at one input. -/
def dehornoyRelationsWrong : ChangeSpec := { name := "dehornoyRelations", fn := fun _ => fun
  | [d1, d2, d3, d4, d5] => { results := [.lit (.bool false)], args := [d1, d2, d3, d4, d5] }
  | _ => none }
def DehornoyRelationsWrongFalsely : Prop := dehornoyRelationsRow.holds Try.pinned (OpenSpec.ofChange dehornoyRelationsWrong)

/-- 'timbkeep1.DehornoyOrder': WHATEVER THE INPUT: true; the input reads as it did. -/
def dehornoyOrderSpec : ChangeSpec := { name := "dehornoyOrder", fn := fun _ => fun
  | [d1, d2, d3, d4] => { results := [.lit (.bool true)], args := [d1, d2, d3, d4] }
  | _ => none }
def dehornoyOrderRow : OpenClaim := { program := "ytplekfgadbjgdaa", sum := "8854d3dc3302b3b5093a2064ff302af96112ef6e5820399e059b65cfa4dda337", func := "timbrel/timbkeep1.DehornoyOrder", spec := "dehornoyOrder", unfollowed := true, recurses := true, plainKeys := false, apart := false }
def DehornoyOrderSaid : Prop := dehornoyOrderRow.holds Try.pinned (OpenSpec.ofChange dehornoyOrderSpec)

/-- ITS FALSE NEIGHBOUR: 'it returns false'. Refute it at one input. -/
def dehornoyOrderWrong : ChangeSpec := { name := "dehornoyOrder", fn := fun _ => fun
  | [d1, d2, d3, d4] => { results := [.lit (.bool false)], args := [d1, d2, d3, d4] }
  | _ => none }
def DehornoyOrderWrongFalsely : Prop := dehornoyOrderRow.holds Try.pinned (OpenSpec.ofChange dehornoyOrderWrong)

/-- 'timbkeep1.DehornoySigns': WHATEVER THE INPUT: true; the input reads as it did. -/
def dehornoySignsSpec : ChangeSpec := { name := "dehornoySigns", fn := fun _ => fun
  | [d1, d2] => { results := [.lit (.bool true)], args := [d1, d2] }
  | _ => none }
def dehornoySignsRow : OpenClaim := { program := "ytplekfgadbjgdaa", sum := "8854d3dc3302b3b5093a2064ff302af96112ef6e5820399e059b65cfa4dda337", func := "timbrel/timbkeep1.DehornoySigns", spec := "dehornoySigns", unfollowed := true, recurses := true, plainKeys := false, apart := false }
def DehornoySignsSaid : Prop := dehornoySignsRow.holds Try.pinned (OpenSpec.ofChange dehornoySignsSpec)

/-- ITS FALSE NEIGHBOUR: 'it returns false'. Refute it at one input. -/
def dehornoySignsWrong : ChangeSpec := { name := "dehornoySigns", fn := fun _ => fun
  | [d1, d2] => { results := [.lit (.bool false)], args := [d1, d2] }
  | _ => none }
def DehornoySignsWrongFalsely : Prop := dehornoySignsRow.holds Try.pinned (OpenSpec.ofChange dehornoySignsWrong)

/-- 'timbtop.TopWordProblem': WHATEVER THE INPUT: true; the input reads as it did. -/
def topWordProblemSpec : ChangeSpec := { name := "topWordProblem", fn := fun _ => fun
  | [d1, d2, d3, d4, d5] => { results := [.lit (.bool true)], args := [d1, d2, d3, d4, d5] }
  | _ => none }
def topWordProblemRow : OpenClaim := { program := "ytplekfgadbjgdaa", sum := "8854d3dc3302b3b5093a2064ff302af96112ef6e5820399e059b65cfa4dda337", func := "timbrel/timbtop.TopWordProblem", spec := "topWordProblem", unfollowed := true, recurses := true, plainKeys := false, apart := false }
def TopWordProblemSaid : Prop := topWordProblemRow.holds Try.pinned (OpenSpec.ofChange topWordProblemSpec)

/-- ITS FALSE NEIGHBOUR: 'it returns false'. Refute it at one input. -/
def topWordProblemWrong : ChangeSpec := { name := "topWordProblem", fn := fun _ => fun
  | [d1, d2, d3, d4, d5] => { results := [.lit (.bool false)], args := [d1, d2, d3, d4, d5] }
  | _ => none }
def TopWordProblemWrongFalsely : Prop := topWordProblemRow.holds Try.pinned (OpenSpec.ofChange topWordProblemWrong)

/- THE SECOND FORM. 'bulk': how many values and letters a reading holds, each counted each time it is reached (what is shared counts as often as it is met; a slice's spare places count too). A statement '..UptoSaid' is the law's where the arguments, and the package variables that the reading takes, are together of bulk at most 1048576: NARROWER than '..Said'. Prove '..Said' where nothing that the law and all that it calls make is longer than what came in: it says more and counts as full. Else prove '..UptoSaid'. A law counts once. -/
mutual
def uptoBulk {H : Type} : DataW H → Nat
  | .lit (.string bytes) => bytes.length + 1
  | .lit _ => 1
  | .nil => 1
  | .ptr d => uptoBulk d + 1
  | .slice elems spare => uptoBulkAll elems + uptoBulkAll spare + 1
  | .agg parts => uptoBulkAll parts + 1
  | .iface _ d => uptoBulk d + 1
  | .map entries => uptoBulkEntries entries + 1
  | .held _ => 1
def uptoBulkAll {H : Type} : List (DataW H) → Nat
  | [] => 0
  | d :: r => uptoBulk d + uptoBulkAll r
def uptoBulkEntries {H : Type} : List (Lit × DataW H) → Nat
  | [] => 0
  | x :: r => uptoBulkEntry x + uptoBulkEntries r
def uptoBulkEntry {H : Type} : Lit × DataW H → Nat
  | (.string bytes, d) => bytes.length + uptoBulk d + 1
  | (_, d) => uptoBulk d + 1
 end
def uptoSmall : (H : Type) → List (DataW H) → Bool := fun _ ds => decide (uptoBulkAll ds ≤ 1048576)
def OpenSpec.upto (s : _root_.Go.ChangeSpec) : _root_.Go.OpenSpec := { _root_.Go.OpenSpec.ofChange s with cond := some uptoSmall }

/-- 'timbkeep1.MatchingCounts', WHERE WHAT IT READS IS OF BULK AT MOST 1048576: true; the input reads as it did. -/
def matchingCountsUptoRow : OpenClaim := { program := "ytplekfgadbjgdaa", sum := "8854d3dc3302b3b5093a2064ff302af96112ef6e5820399e059b65cfa4dda337", func := "timbrel/timbkeep1.MatchingCounts", spec := "matchingCounts", unfollowed := true, recurses := true, plainKeys := false, apart := false, narrowed := true }
def MatchingCountsUptoSaid : Prop := matchingCountsUptoRow.holds Try.pinned (OpenSpec.upto matchingCountsSpec)

/-- 'timbtop.TopSums', WHERE WHAT IT READS IS OF BULK AT MOST 1048576: true; the input reads as it did. -/
def topSumsUptoRow : OpenClaim := { program := "ytplekfgadbjgdaa", sum := "8854d3dc3302b3b5093a2064ff302af96112ef6e5820399e059b65cfa4dda337", func := "timbrel/timbtop.TopSums", spec := "topSums", unfollowed := true, recurses := true, plainKeys := false, apart := false, narrowed := true }
def TopSumsUptoSaid : Prop := topSumsUptoRow.holds Try.pinned (OpenSpec.upto topSumsSpec)

/-- 'timbkeep1.GroupLagrange', WHERE WHAT IT READS IS OF BULK AT MOST 1048576: true; the input reads as it did. -/
def groupLagrangeUptoRow : OpenClaim := { program := "ytplekfgadbjgdaa", sum := "8854d3dc3302b3b5093a2064ff302af96112ef6e5820399e059b65cfa4dda337", func := "timbrel/timbkeep1.GroupLagrange", spec := "groupLagrange", recurses := true, plainKeys := false, apart := false, narrowed := true }
def GroupLagrangeUptoSaid : Prop := groupLagrangeUptoRow.holds Try.pinned (OpenSpec.upto groupLagrangeSpec)

/-- 'timbkeep1.GroupWords', WHERE WHAT IT READS IS OF BULK AT MOST 1048576: true; the input reads as it did. -/
def groupWordsUptoRow : OpenClaim := { program := "ytplekfgadbjgdaa", sum := "8854d3dc3302b3b5093a2064ff302af96112ef6e5820399e059b65cfa4dda337", func := "timbrel/timbkeep1.GroupWords", spec := "groupWords", unfollowed := true, recurses := true, plainKeys := false, apart := false, narrowed := true }
def GroupWordsUptoSaid : Prop := groupWordsUptoRow.holds Try.pinned (OpenSpec.upto groupWordsSpec)

/-- 'timbkeep1.GroupOrbitStabilizer', WHERE WHAT IT READS IS OF BULK AT MOST 1048576: true; the input reads as it did. -/
def groupOrbitStabilizerUptoRow : OpenClaim := { program := "ytplekfgadbjgdaa", sum := "8854d3dc3302b3b5093a2064ff302af96112ef6e5820399e059b65cfa4dda337", func := "timbrel/timbkeep1.GroupOrbitStabilizer", spec := "groupOrbitStabilizer", unfollowed := true, recurses := true, plainKeys := false, apart := false, narrowed := true }
def GroupOrbitStabilizerUptoSaid : Prop := groupOrbitStabilizerUptoRow.holds Try.pinned (OpenSpec.upto groupOrbitStabilizerSpec)

/-- 'timbtop.TopRinging', WHERE WHAT IT READS IS OF BULK AT MOST 1048576: true; the input reads as it did. -/
def topRingingUptoRow : OpenClaim := { program := "ytplekfgadbjgdaa", sum := "8854d3dc3302b3b5093a2064ff302af96112ef6e5820399e059b65cfa4dda337", func := "timbrel/timbtop.TopRinging", spec := "topRinging", unfollowed := true, recurses := true, plainKeys := false, apart := false, narrowed := true }
def TopRingingUptoSaid : Prop := topRingingUptoRow.holds Try.pinned (OpenSpec.upto topRingingSpec)

/-- 'timbkeep1.DehornoyRelations', WHERE WHAT IT READS IS OF BULK AT MOST 1048576: true; the input reads as it did. -/
def dehornoyRelationsUptoRow : OpenClaim := { program := "ytplekfgadbjgdaa", sum := "8854d3dc3302b3b5093a2064ff302af96112ef6e5820399e059b65cfa4dda337", func := "timbrel/timbkeep1.DehornoyRelations", spec := "dehornoyRelations", unfollowed := true, recurses := true, plainKeys := false, apart := false, narrowed := true }
def DehornoyRelationsUptoSaid : Prop := dehornoyRelationsUptoRow.holds Try.pinned (OpenSpec.upto dehornoyRelationsSpec)

/-- 'timbkeep1.DehornoyOrder', WHERE WHAT IT READS IS OF BULK AT MOST 1048576: true; the input reads as it did. -/
def dehornoyOrderUptoRow : OpenClaim := { program := "ytplekfgadbjgdaa", sum := "8854d3dc3302b3b5093a2064ff302af96112ef6e5820399e059b65cfa4dda337", func := "timbrel/timbkeep1.DehornoyOrder", spec := "dehornoyOrder", unfollowed := true, recurses := true, plainKeys := false, apart := false, narrowed := true }
def DehornoyOrderUptoSaid : Prop := dehornoyOrderUptoRow.holds Try.pinned (OpenSpec.upto dehornoyOrderSpec)

/-- 'timbkeep1.DehornoySigns', WHERE WHAT IT READS IS OF BULK AT MOST 1048576: true; the input reads as it did. -/
def dehornoySignsUptoRow : OpenClaim := { program := "ytplekfgadbjgdaa", sum := "8854d3dc3302b3b5093a2064ff302af96112ef6e5820399e059b65cfa4dda337", func := "timbrel/timbkeep1.DehornoySigns", spec := "dehornoySigns", unfollowed := true, recurses := true, plainKeys := false, apart := false, narrowed := true }
def DehornoySignsUptoSaid : Prop := dehornoySignsUptoRow.holds Try.pinned (OpenSpec.upto dehornoySignsSpec)

/-- 'timbtop.TopWordProblem', WHERE WHAT IT READS IS OF BULK AT MOST 1048576: true; the input reads as it did. -/
def topWordProblemUptoRow : OpenClaim := { program := "ytplekfgadbjgdaa", sum := "8854d3dc3302b3b5093a2064ff302af96112ef6e5820399e059b65cfa4dda337", func := "timbrel/timbtop.TopWordProblem", spec := "topWordProblem", unfollowed := true, recurses := true, plainKeys := false, apart := false, narrowed := true }
def TopWordProblemUptoSaid : Prop := topWordProblemUptoRow.holds Try.pinned (OpenSpec.upto topWordProblemSpec)

end Rows
end Go.Proofs.Ytplekfgadbjgdaa

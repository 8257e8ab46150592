/-
  No cell of these rows narrows 'for every input' (looked for: loops, veiled, ifaces, maps, wideKeys, modest, calm, conditions, laid).
  DERIVED. THE GIVEN ROWS OF THIS SEAT. 13 by the template 'for every input the law returns true; each argument reads behind the call as it read before'; 0 by the template 'total and deterministic' (their statements: YtkimbhmijgfhnaaTotals.lean).
  GIVEN WITH THE SEED: the statements are not yours to turn. If you find one false, say at which input.
  Laid BY PROGRAM, IN A SANDBOX (cutbox-rows.mjs): the forced cells as the released guide's own fill.sh prints them over the translation 0fa8dc366db3d58f… (all of the seat's roots in one cut). By AI agents, Wed Nov 11 2026. No macro, syntax, notation, axiom, sorry.
-/
import Derived.Test.YtkimbhmijgfhnaaChecked
import GoSem.Claim
import GoSem.ClaimJoined
import GoSem.ClaimMapViews
import Derived.JoinedTies
import Derived.KernelRfl
namespace Go.Proofs.Ytkimbhmijgfhnaa
/- THE CELL 'sum', in the pinned program and in every row, IS THE sha256 OF THE DUMP (.gsa) THAT YtkimbhmijgfhnaaProg.lean LOADS. Nothing in Lean hashes anything: it is a label: what it is worth is what the hold of that sum in a sandbox is worth. -/
noncomputable def Try.pinned : Pinned := { name := "ytkimbhmijgfhnaa", sum := "0fa8dc366db3d58f24fa31e7bb3075b19629521b59ba2a15e9bbc3843deb2a42", checked := Try.checked }
namespace Rows
def none {H : Type} : Left H := { results := [], args := [] }

/-- 'timbkeep1.PolyRing': WHATEVER THE INPUT: true; the input reads as it did. -/
def polyRingSpec : ChangeSpec := { name := "polyRing", fn := fun _ => fun
  | [d1, d2, d3, d4, d5, d6] => { results := [.lit (.bool true)], args := [d1, d2, d3, d4, d5, d6] }
  | _ => none }
def polyRingRow : OpenClaim := { program := "ytkimbhmijgfhnaa", sum := "0fa8dc366db3d58f24fa31e7bb3075b19629521b59ba2a15e9bbc3843deb2a42", func := "timbrel/timbkeep1.PolyRing", spec := "polyRing", unfollowed := true, recurses := true, plainKeys := false, apart := false }
def PolyRingSaid : Prop := polyRingRow.holds Try.pinned (OpenSpec.ofChange polyRingSpec)

/-- ITS FALSE NEIGHBOUR: 'it returns false'. Refute it at one input. -/
def polyRingWrong : ChangeSpec := { name := "polyRing", fn := fun _ => fun
  | [d1, d2, d3, d4, d5, d6] => { results := [.lit (.bool false)], args := [d1, d2, d3, d4, d5, d6] }
  | _ => none }
def PolyRingWrongFalsely : Prop := polyRingRow.holds Try.pinned (OpenSpec.ofChange polyRingWrong)

/-- 'timbkeep1.PolyQuotients': WHATEVER THE INPUT: true; the input reads as it did. -/
def polyQuotientsSpec : ChangeSpec := { name := "polyQuotients", fn := fun _ => fun
  | [d1, d2, d3, d4] => { results := [.lit (.bool true)], args := [d1, d2, d3, d4] }
  | _ => none }
def polyQuotientsRow : OpenClaim := { program := "ytkimbhmijgfhnaa", sum := "0fa8dc366db3d58f24fa31e7bb3075b19629521b59ba2a15e9bbc3843deb2a42", func := "timbrel/timbkeep1.PolyQuotients", spec := "polyQuotients", unfollowed := true, recurses := true, plainKeys := false, apart := false }
def PolyQuotientsSaid : Prop := polyQuotientsRow.holds Try.pinned (OpenSpec.ofChange polyQuotientsSpec)

/-- ITS FALSE NEIGHBOUR: 'it returns false'. Refute it at one input. -/
def polyQuotientsWrong : ChangeSpec := { name := "polyQuotients", fn := fun _ => fun
  | [d1, d2, d3, d4] => { results := [.lit (.bool false)], args := [d1, d2, d3, d4] }
  | _ => none }
def PolyQuotientsWrongFalsely : Prop := polyQuotientsRow.holds Try.pinned (OpenSpec.ofChange polyQuotientsWrong)

/-- 'timbkeep1.PolyValues': WHATEVER THE INPUT: true; the input reads as it did. -/
def polyValuesSpec : ChangeSpec := { name := "polyValues", fn := fun _ => fun
  | [d1, d2, d3, d4, d5] => { results := [.lit (.bool true)], args := [d1, d2, d3, d4, d5] }
  | _ => none }
def polyValuesRow : OpenClaim := { program := "ytkimbhmijgfhnaa", sum := "0fa8dc366db3d58f24fa31e7bb3075b19629521b59ba2a15e9bbc3843deb2a42", func := "timbrel/timbkeep1.PolyValues", spec := "polyValues", unfollowed := true, recurses := true, plainKeys := false, apart := false }
def PolyValuesSaid : Prop := polyValuesRow.holds Try.pinned (OpenSpec.ofChange polyValuesSpec)

/-- ITS FALSE NEIGHBOUR: 'it returns false'. Refute it at one input. -/
def polyValuesWrong : ChangeSpec := { name := "polyValues", fn := fun _ => fun
  | [d1, d2, d3, d4, d5] => { results := [.lit (.bool false)], args := [d1, d2, d3, d4, d5] }
  | _ => none }
def PolyValuesWrongFalsely : Prop := polyValuesRow.holds Try.pinned (OpenSpec.ofChange polyValuesWrong)

/-- 'timbkeep1.FoxRules': WHATEVER THE INPUT: true; the input reads as it did. -/
def foxRulesSpec : ChangeSpec := { name := "foxRules", fn := fun _ => fun
  | [d1, d2, d3] => { results := [.lit (.bool true)], args := [d1, d2, d3] }
  | _ => none }
def foxRulesRow : OpenClaim := { program := "ytkimbhmijgfhnaa", sum := "0fa8dc366db3d58f24fa31e7bb3075b19629521b59ba2a15e9bbc3843deb2a42", func := "timbrel/timbkeep1.FoxRules", spec := "foxRules", unfollowed := true, recurses := true, plainKeys := false, apart := false }
def FoxRulesSaid : Prop := foxRulesRow.holds Try.pinned (OpenSpec.ofChange foxRulesSpec)

/-- ITS FALSE NEIGHBOUR: 'it returns false'. Refute it at one input. -/
def foxRulesWrong : ChangeSpec := { name := "foxRules", fn := fun _ => fun
  | [d1, d2, d3] => { results := [.lit (.bool false)], args := [d1, d2, d3] }
  | _ => none }
def FoxRulesWrongFalsely : Prop := foxRulesRow.holds Try.pinned (OpenSpec.ofChange foxRulesWrong)

/-- 'timbkeep1.PolyDetRows': WHATEVER THE INPUT: true; the input reads as it did. -/
def polyDetRowsSpec : ChangeSpec := { name := "polyDetRows", fn := fun _ => fun
  | [d1, d2, d3, d4] => { results := [.lit (.bool true)], args := [d1, d2, d3, d4] }
  | _ => none }
def polyDetRowsRow : OpenClaim := { program := "ytkimbhmijgfhnaa", sum := "0fa8dc366db3d58f24fa31e7bb3075b19629521b59ba2a15e9bbc3843deb2a42", func := "timbrel/timbkeep1.PolyDetRows", spec := "polyDetRows", unfollowed := true, recurses := true, plainKeys := false, apart := false }
def PolyDetRowsSaid : Prop := polyDetRowsRow.holds Try.pinned (OpenSpec.ofChange polyDetRowsSpec)

/-- ITS FALSE NEIGHBOUR: 'it returns false'. Refute it at one input. -/
def polyDetRowsWrong : ChangeSpec := { name := "polyDetRows", fn := fun _ => fun
  | [d1, d2, d3, d4] => { results := [.lit (.bool false)], args := [d1, d2, d3, d4] }
  | _ => none }
def PolyDetRowsWrongFalsely : Prop := polyDetRowsRow.holds Try.pinned (OpenSpec.ofChange polyDetRowsWrong)

/-- 'timbkeep1.BraidRelations': WHATEVER THE INPUT: true; the input reads as it did. -/
def braidRelationsSpec : ChangeSpec := { name := "braidRelations", fn := fun _ => fun
  | [d1, d2, d3, d4, d5] => { results := [.lit (.bool true)], args := [d1, d2, d3, d4, d5] }
  | _ => none }
def braidRelationsRow : OpenClaim := { program := "ytkimbhmijgfhnaa", sum := "0fa8dc366db3d58f24fa31e7bb3075b19629521b59ba2a15e9bbc3843deb2a42", func := "timbrel/timbkeep1.BraidRelations", spec := "braidRelations", unfollowed := true, recurses := true, plainKeys := false, apart := false }
def BraidRelationsSaid : Prop := braidRelationsRow.holds Try.pinned (OpenSpec.ofChange braidRelationsSpec)

/-- ITS FALSE NEIGHBOUR: 'it returns false'. Refute it at one input. -/
def braidRelationsWrong : ChangeSpec := { name := "braidRelations", fn := fun _ => fun
  | [d1, d2, d3, d4, d5] => { results := [.lit (.bool false)], args := [d1, d2, d3, d4, d5] }
  | _ => none }
def BraidRelationsWrongFalsely : Prop := braidRelationsRow.holds Try.pinned (OpenSpec.ofChange braidRelationsWrong)

/-- 'timbkeep1.BraidBurauSums': WHATEVER THE INPUT: true; the input reads as it did. -/
def braidBurauSumsSpec : ChangeSpec := { name := "braidBurauSums", fn := fun _ => fun
  | [d1, d2] => { results := [.lit (.bool true)], args := [d1, d2] }
  | _ => none }
def braidBurauSumsRow : OpenClaim := { program := "ytkimbhmijgfhnaa", sum := "0fa8dc366db3d58f24fa31e7bb3075b19629521b59ba2a15e9bbc3843deb2a42", func := "timbrel/timbkeep1.BraidBurauSums", spec := "braidBurauSums", unfollowed := true, recurses := true, plainKeys := false, apart := false }
def BraidBurauSumsSaid : Prop := braidBurauSumsRow.holds Try.pinned (OpenSpec.ofChange braidBurauSumsSpec)

/-- ITS FALSE NEIGHBOUR: 'it returns false'. Refute it at one input. -/
def braidBurauSumsWrong : ChangeSpec := { name := "braidBurauSums", fn := fun _ => fun
  | [d1, d2] => { results := [.lit (.bool false)], args := [d1, d2] }
  | _ => none }
def BraidBurauSumsWrongFalsely : Prop := braidBurauSumsRow.holds Try.pinned (OpenSpec.ofChange braidBurauSumsWrong)

/-- 'timbkeep1.BraidHomomorphisms': WHATEVER THE INPUT: true; the input reads as it did. -/
def braidHomomorphismsSpec : ChangeSpec := { name := "braidHomomorphisms", fn := fun _ => fun
  | [d1, d2, d3] => { results := [.lit (.bool true)], args := [d1, d2, d3] }
  | _ => none }
def braidHomomorphismsRow : OpenClaim := { program := "ytkimbhmijgfhnaa", sum := "0fa8dc366db3d58f24fa31e7bb3075b19629521b59ba2a15e9bbc3843deb2a42", func := "timbrel/timbkeep1.BraidHomomorphisms", spec := "braidHomomorphisms", unfollowed := true, recurses := true, plainKeys := false, apart := false }
def BraidHomomorphismsSaid : Prop := braidHomomorphismsRow.holds Try.pinned (OpenSpec.ofChange braidHomomorphismsSpec)

/-- ITS FALSE NEIGHBOUR: 'it returns false'. Refute it at one input. -/
def braidHomomorphismsWrong : ChangeSpec := { name := "braidHomomorphisms", fn := fun _ => fun
  | [d1, d2, d3] => { results := [.lit (.bool false)], args := [d1, d2, d3] }
  | _ => none }
def BraidHomomorphismsWrongFalsely : Prop := braidHomomorphismsRow.holds Try.pinned (OpenSpec.ofChange braidHomomorphismsWrong)

/-- 'timbtop.TopFox': WHATEVER THE INPUT: true; the input reads as it did. -/
def topFoxSpec : ChangeSpec := { name := "topFox", fn := fun _ => fun
  | [d1, d2] => { results := [.lit (.bool true)], args := [d1, d2] }
  | _ => none }
def topFoxRow : OpenClaim := { program := "ytkimbhmijgfhnaa", sum := "0fa8dc366db3d58f24fa31e7bb3075b19629521b59ba2a15e9bbc3843deb2a42", func := "timbrel/timbtop.TopFox", spec := "topFox", unfollowed := true, recurses := true, plainKeys := false, apart := false }
def TopFoxSaid : Prop := topFoxRow.holds Try.pinned (OpenSpec.ofChange topFoxSpec)

/-- ITS FALSE NEIGHBOUR: 'it returns false'. Refute it at one input. -/
def topFoxWrong : ChangeSpec := { name := "topFox", fn := fun _ => fun
  | [d1, d2] => { results := [.lit (.bool false)], args := [d1, d2] }
  | _ => none }
def TopFoxWrongFalsely : Prop := topFoxRow.holds Try.pinned (OpenSpec.ofChange topFoxWrong)

/-- 'timbkeep1.ArtinRelations': WHATEVER THE INPUT: true; the input reads as it did. -/
def artinRelationsSpec : ChangeSpec := { name := "artinRelations", fn := fun _ => fun
  | [d1, d2, d3, d4, d5] => { results := [.lit (.bool true)], args := [d1, d2, d3, d4, d5] }
  | _ => none }
def artinRelationsRow : OpenClaim := { program := "ytkimbhmijgfhnaa", sum := "0fa8dc366db3d58f24fa31e7bb3075b19629521b59ba2a15e9bbc3843deb2a42", func := "timbrel/timbkeep1.ArtinRelations", spec := "artinRelations", unfollowed := true, recurses := true, plainKeys := false, apart := false }
def ArtinRelationsSaid : Prop := artinRelationsRow.holds Try.pinned (OpenSpec.ofChange artinRelationsSpec)

/-- ITS FALSE NEIGHBOUR: 'it returns false'. Refute it at one input. -/
def artinRelationsWrong : ChangeSpec := { name := "artinRelations", fn := fun _ => fun
  | [d1, d2, d3, d4, d5] => { results := [.lit (.bool false)], args := [d1, d2, d3, d4, d5] }
  | _ => none }
def ArtinRelationsWrongFalsely : Prop := artinRelationsRow.holds Try.pinned (OpenSpec.ofChange artinRelationsWrong)

/-- 'timbkeep1.ArtinFixes': WHATEVER THE INPUT: true; the input reads as it did. -/
def artinFixesSpec : ChangeSpec := { name := "artinFixes", fn := fun _ => fun
  | [d1, d2] => { results := [.lit (.bool true)], args := [d1, d2] }
  | _ => none }
def artinFixesRow : OpenClaim := { program := "ytkimbhmijgfhnaa", sum := "0fa8dc366db3d58f24fa31e7bb3075b19629521b59ba2a15e9bbc3843deb2a42", func := "timbrel/timbkeep1.ArtinFixes", spec := "artinFixes", unfollowed := true, recurses := true, plainKeys := false, apart := false }
def ArtinFixesSaid : Prop := artinFixesRow.holds Try.pinned (OpenSpec.ofChange artinFixesSpec)

/-- ITS FALSE NEIGHBOUR: 'it returns false'. Refute it at one input. -/
def artinFixesWrong : ChangeSpec := { name := "artinFixes", fn := fun _ => fun
  | [d1, d2] => { results := [.lit (.bool false)], args := [d1, d2] }
  | _ => none }
def ArtinFixesWrongFalsely : Prop := artinFixesRow.holds Try.pinned (OpenSpec.ofChange artinFixesWrong)

/-- 'timbkeep1.JonesMirror': WHATEVER THE INPUT: true; the input reads as it did. -/
def jonesMirrorSpec : ChangeSpec := { name := "jonesMirror", fn := fun _ => fun
  | [d1, d2] => { results := [.lit (.bool true)], args := [d1, d2] }
  | _ => none }
def jonesMirrorRow : OpenClaim := { program := "ytkimbhmijgfhnaa", sum := "0fa8dc366db3d58f24fa31e7bb3075b19629521b59ba2a15e9bbc3843deb2a42", func := "timbrel/timbkeep1.JonesMirror", spec := "jonesMirror", unfollowed := true, recurses := true, plainKeys := false, apart := false }
def JonesMirrorSaid : Prop := jonesMirrorRow.holds Try.pinned (OpenSpec.ofChange jonesMirrorSpec)

/-- ITS FALSE NEIGHBOUR: 'it returns false'. Refute it at one input. -/
def jonesMirrorWrong : ChangeSpec := { name := "jonesMirror", fn := fun _ => fun
  | [d1, d2] => { results := [.lit (.bool false)], args := [d1, d2] }
  | _ => none }
def JonesMirrorWrongFalsely : Prop := jonesMirrorRow.holds Try.pinned (OpenSpec.ofChange jonesMirrorWrong)

/-- 'timbkeep1.JonesSkein': WHATEVER THE INPUT: true; the input reads as it did. -/
def jonesSkeinSpec : ChangeSpec := { name := "jonesSkein", fn := fun _ => fun
  | [d1, d2, d3, d4] => { results := [.lit (.bool true)], args := [d1, d2, d3, d4] }
  | _ => none }
def jonesSkeinRow : OpenClaim := { program := "ytkimbhmijgfhnaa", sum := "0fa8dc366db3d58f24fa31e7bb3075b19629521b59ba2a15e9bbc3843deb2a42", func := "timbrel/timbkeep1.JonesSkein", spec := "jonesSkein", unfollowed := true, recurses := true, plainKeys := false, apart := false }
def JonesSkeinSaid : Prop := jonesSkeinRow.holds Try.pinned (OpenSpec.ofChange jonesSkeinSpec)

/-- ITS FALSE NEIGHBOUR: 'it returns false'. Refute it at one input. -/
def jonesSkeinWrong : ChangeSpec := { name := "jonesSkein", fn := fun _ => fun
  | [d1, d2, d3, d4] => { results := [.lit (.bool false)], args := [d1, d2, d3, d4] }
  | _ => none }
def JonesSkeinWrongFalsely : Prop := jonesSkeinRow.holds Try.pinned (OpenSpec.ofChange jonesSkeinWrong)

/- THE SECOND FORM. 'bulk': how many values and letters a reading holds, each counted each time it is reached (what is shared counts as often as it is met; a slice's spare places count too). A statement '..UptoSaid' is the law's where the arguments, and the package variables that the reading takes, are together of bulk at most 1048576: NARROWER than '..Said'. Prove '..Said' where nothing that the law and all that it calls make is longer than what came in: it says more and counts as full. Else prove '..UptoSaid'. A law counts once. -/
mutual
def uptoBulk {H : Type} : DataW H → Nat
  | .lit (.string bytes) => bytes.length + 1
  | .lit _ => 1
  | .nil => 1
  | .ptr d => uptoBulk d + 1
  | .slice elems spare => uptoBulkAll elems + uptoBulkAll spare + 1
  | .agg parts => uptoBulkAll parts + 1
  | .iface _ d => uptoBulk d + 1
  | .map entries => uptoBulkEntries entries + 1
  | .held _ => 1
def uptoBulkAll {H : Type} : List (DataW H) → Nat
  | [] => 0
  | d :: r => uptoBulk d + uptoBulkAll r
def uptoBulkEntries {H : Type} : List (Lit × DataW H) → Nat
  | [] => 0
  | x :: r => uptoBulkEntry x + uptoBulkEntries r
def uptoBulkEntry {H : Type} : Lit × DataW H → Nat
  | (.string bytes, d) => bytes.length + uptoBulk d + 1
  | (_, d) => uptoBulk d + 1
 end
def uptoSmall : (H : Type) → List (DataW H) → Bool := fun _ ds => decide (uptoBulkAll ds ≤ 1048576)
def OpenSpec.upto (s : _root_.Go.ChangeSpec) : _root_.Go.OpenSpec := { _root_.Go.OpenSpec.ofChange s with cond := some uptoSmall }

/-- 'timbkeep1.PolyRing', WHERE WHAT IT READS IS OF BULK AT MOST 1048576: true; the input reads as it did. -/
def polyRingUptoRow : OpenClaim := { program := "ytkimbhmijgfhnaa", sum := "0fa8dc366db3d58f24fa31e7bb3075b19629521b59ba2a15e9bbc3843deb2a42", func := "timbrel/timbkeep1.PolyRing", spec := "polyRing", unfollowed := true, recurses := true, plainKeys := false, apart := false, narrowed := true }
def PolyRingUptoSaid : Prop := polyRingUptoRow.holds Try.pinned (OpenSpec.upto polyRingSpec)

/-- 'timbkeep1.PolyQuotients', WHERE WHAT IT READS IS OF BULK AT MOST 1048576: true; the input reads as it did. -/
def polyQuotientsUptoRow : OpenClaim := { program := "ytkimbhmijgfhnaa", sum := "0fa8dc366db3d58f24fa31e7bb3075b19629521b59ba2a15e9bbc3843deb2a42", func := "timbrel/timbkeep1.PolyQuotients", spec := "polyQuotients", unfollowed := true, recurses := true, plainKeys := false, apart := false, narrowed := true }
def PolyQuotientsUptoSaid : Prop := polyQuotientsUptoRow.holds Try.pinned (OpenSpec.upto polyQuotientsSpec)

/-- 'timbkeep1.PolyValues', WHERE WHAT IT READS IS OF BULK AT MOST 1048576: true; the input reads as it did. -/
def polyValuesUptoRow : OpenClaim := { program := "ytkimbhmijgfhnaa", sum := "0fa8dc366db3d58f24fa31e7bb3075b19629521b59ba2a15e9bbc3843deb2a42", func := "timbrel/timbkeep1.PolyValues", spec := "polyValues", unfollowed := true, recurses := true, plainKeys := false, apart := false, narrowed := true }
def PolyValuesUptoSaid : Prop := polyValuesUptoRow.holds Try.pinned (OpenSpec.upto polyValuesSpec)

/-- 'timbkeep1.FoxRules', WHERE WHAT IT READS IS OF BULK AT MOST 1048576: true; the input reads as it did. -/
def foxRulesUptoRow : OpenClaim := { program := "ytkimbhmijgfhnaa", sum := "0fa8dc366db3d58f24fa31e7bb3075b19629521b59ba2a15e9bbc3843deb2a42", func := "timbrel/timbkeep1.FoxRules", spec := "foxRules", unfollowed := true, recurses := true, plainKeys := false, apart := false, narrowed := true }
def FoxRulesUptoSaid : Prop := foxRulesUptoRow.holds Try.pinned (OpenSpec.upto foxRulesSpec)

/-- 'timbkeep1.PolyDetRows', WHERE WHAT IT READS IS OF BULK AT MOST 1048576: true; the input reads as it did. -/
def polyDetRowsUptoRow : OpenClaim := { program := "ytkimbhmijgfhnaa", sum := "0fa8dc366db3d58f24fa31e7bb3075b19629521b59ba2a15e9bbc3843deb2a42", func := "timbrel/timbkeep1.PolyDetRows", spec := "polyDetRows", unfollowed := true, recurses := true, plainKeys := false, apart := false, narrowed := true }
def PolyDetRowsUptoSaid : Prop := polyDetRowsUptoRow.holds Try.pinned (OpenSpec.upto polyDetRowsSpec)

/-- 'timbkeep1.BraidRelations', WHERE WHAT IT READS IS OF BULK AT MOST 1048576: true; the input reads as it did. -/
def braidRelationsUptoRow : OpenClaim := { program := "ytkimbhmijgfhnaa", sum := "0fa8dc366db3d58f24fa31e7bb3075b19629521b59ba2a15e9bbc3843deb2a42", func := "timbrel/timbkeep1.BraidRelations", spec := "braidRelations", unfollowed := true, recurses := true, plainKeys := false, apart := false, narrowed := true }
def BraidRelationsUptoSaid : Prop := braidRelationsUptoRow.holds Try.pinned (OpenSpec.upto braidRelationsSpec)

/-- 'timbkeep1.BraidBurauSums', WHERE WHAT IT READS IS OF BULK AT MOST 1048576: true; the input reads as it did. -/
def braidBurauSumsUptoRow : OpenClaim := { program := "ytkimbhmijgfhnaa", sum := "0fa8dc366db3d58f24fa31e7bb3075b19629521b59ba2a15e9bbc3843deb2a42", func := "timbrel/timbkeep1.BraidBurauSums", spec := "braidBurauSums", unfollowed := true, recurses := true, plainKeys := false, apart := false, narrowed := true }
def BraidBurauSumsUptoSaid : Prop := braidBurauSumsUptoRow.holds Try.pinned (OpenSpec.upto braidBurauSumsSpec)

/-- 'timbkeep1.BraidHomomorphisms', WHERE WHAT IT READS IS OF BULK AT MOST 1048576: true; the input reads as it did. -/
def braidHomomorphismsUptoRow : OpenClaim := { program := "ytkimbhmijgfhnaa", sum := "0fa8dc366db3d58f24fa31e7bb3075b19629521b59ba2a15e9bbc3843deb2a42", func := "timbrel/timbkeep1.BraidHomomorphisms", spec := "braidHomomorphisms", unfollowed := true, recurses := true, plainKeys := false, apart := false, narrowed := true }
def BraidHomomorphismsUptoSaid : Prop := braidHomomorphismsUptoRow.holds Try.pinned (OpenSpec.upto braidHomomorphismsSpec)

/-- 'timbtop.TopFox', WHERE WHAT IT READS IS OF BULK AT MOST 1048576: true; the input reads as it did. -/
def topFoxUptoRow : OpenClaim := { program := "ytkimbhmijgfhnaa", sum := "0fa8dc366db3d58f24fa31e7bb3075b19629521b59ba2a15e9bbc3843deb2a42", func := "timbrel/timbtop.TopFox", spec := "topFox", unfollowed := true, recurses := true, plainKeys := false, apart := false, narrowed := true }
def TopFoxUptoSaid : Prop := topFoxUptoRow.holds Try.pinned (OpenSpec.upto topFoxSpec)

/-- 'timbkeep1.ArtinRelations', WHERE WHAT IT READS IS OF BULK AT MOST 1048576: true; the input reads as it did. -/
def artinRelationsUptoRow : OpenClaim := { program := "ytkimbhmijgfhnaa", sum := "0fa8dc366db3d58f24fa31e7bb3075b19629521b59ba2a15e9bbc3843deb2a42", func := "timbrel/timbkeep1.ArtinRelations", spec := "artinRelations", unfollowed := true, recurses := true, plainKeys := false, apart := false, narrowed := true }
def ArtinRelationsUptoSaid : Prop := artinRelationsUptoRow.holds Try.pinned (OpenSpec.upto artinRelationsSpec)

/-- 'timbkeep1.ArtinFixes', WHERE WHAT IT READS IS OF BULK AT MOST 1048576: true; the input reads as it did. -/
def artinFixesUptoRow : OpenClaim := { program := "ytkimbhmijgfhnaa", sum := "0fa8dc366db3d58f24fa31e7bb3075b19629521b59ba2a15e9bbc3843deb2a42", func := "timbrel/timbkeep1.ArtinFixes", spec := "artinFixes", unfollowed := true, recurses := true, plainKeys := false, apart := false, narrowed := true }
def ArtinFixesUptoSaid : Prop := artinFixesUptoRow.holds Try.pinned (OpenSpec.upto artinFixesSpec)

/-- 'timbkeep1.JonesMirror', WHERE WHAT IT READS IS OF BULK AT MOST 1048576: true; the input reads as it did. -/
def jonesMirrorUptoRow : OpenClaim := { program := "ytkimbhmijgfhnaa", sum := "0fa8dc366db3d58f24fa31e7bb3075b19629521b59ba2a15e9bbc3843deb2a42", func := "timbrel/timbkeep1.JonesMirror", spec := "jonesMirror", unfollowed := true, recurses := true, plainKeys := false, apart := false, narrowed := true }
def JonesMirrorUptoSaid : Prop := jonesMirrorUptoRow.holds Try.pinned (OpenSpec.upto jonesMirrorSpec)

/-- 'timbkeep1.JonesSkein', WHERE WHAT IT READS IS OF BULK AT MOST 1048576: true; the input reads as it did. -/
def jonesSkeinUptoRow : OpenClaim := { program := "ytkimbhmijgfhnaa", sum := "0fa8dc366db3d58f24fa31e7bb3075b19629521b59ba2a15e9bbc3843deb2a42", func := "timbrel/timbkeep1.JonesSkein", spec := "jonesSkein", unfollowed := true, recurses := true, plainKeys := false, apart := false, narrowed := true }
def JonesSkeinUptoSaid : Prop := jonesSkeinUptoRow.holds Try.pinned (OpenSpec.upto jonesSkeinSpec)

end Rows
end Go.Proofs.Ytkimbhmijgfhnaa

/-
  NARROWER THAN 'FOR EVERY INPUT', by the rows' own cells (each row's printed sentence says how): TreePlaces: loops · TreeEqual: loops · TreeSameTurns: loops · TreeCounts: loops · TreeSetGet: loops.
  DERIVED. THE GIVEN ROWS OF THIS SEAT. 11 by the template 'for every input the law returns true; each argument reads behind the call as it read before'; 0 by the template 'total and deterministic' (their statements: YtnmnmkdmnohbmaaTotals.lean).
  GIVEN WITH THE SEED: the statements are not yours to turn. If you find one false, say at which input.
  Laid BY PROGRAM, IN A SANDBOX (cutbox-rows.mjs): the forced cells as the released guide's own fill.sh prints them over the translation 942502a24c265457… (all of the seat's roots in one cut). By AI agents, Wed Nov 11 2026. No macro, syntax, notation, axiom, sorry.
-/
import Derived.Test.YtnmnmkdmnohbmaaChecked
import GoSem.Claim
import GoSem.ClaimJoined
import GoSem.ClaimMapViews
import Derived.JoinedTies
import Derived.KernelRfl
namespace Go.Proofs.Ytnmnmkdmnohbmaa
/- THE CELL 'sum', in the pinned program and in every row, IS THE sha256 OF THE DUMP (.gsa) THAT YtnmnmkdmnohbmaaProg.lean LOADS. Nothing in Lean hashes anything: it is a label: what it is worth is what the hold of that sum in a sandbox is worth. -/
noncomputable def Try.pinned : Pinned := { name := "ytnmnmkdmnohbmaa", sum := "942502a24c265457bb826e5772d768b748b0813d95f4878540652d6e3626457b", checked := Try.checked }
namespace Rows
def none {H : Type} : Left H := { results := [], args := [] }

/-- 'pergolalaw23.ResultNames': WHATEVER THE INPUT: true; the input reads as it did. -/
def resultNamesSpec : ChangeSpec := { name := "resultNames", fn := fun _ => fun
  | [] => { results := [.lit (.bool true)], args := [] }
  | _ => none }
def resultNamesRow : OpenClaim := { program := "ytnmnmkdmnohbmaa", sum := "942502a24c265457bb826e5772d768b748b0813d95f4878540652d6e3626457b", func := "pergola/pergolalaw23.ResultNames", spec := "resultNames", plainKeys := false, apart := false }
def ResultNamesSaid : Prop := resultNamesRow.holds Try.pinned (OpenSpec.ofChange resultNamesSpec)

/-- ITS FALSE NEIGHBOUR: 'it returns false'. Refute it at one input. -/
def resultNamesWrong : ChangeSpec := { name := "resultNames", fn := fun _ => fun
  | [] => { results := [.lit (.bool false)], args := [] }
  | _ => none }
def ResultNamesWrongFalsely : Prop := resultNamesRow.holds Try.pinned (OpenSpec.ofChange resultNamesWrong)

/-- 'pergolalaw03.TreeKinds': WHATEVER THE INPUT: true; the input reads as it did. -/
def treeKindsSpec : ChangeSpec := { name := "treeKinds", fn := fun _ => fun
  | [d1, d2] => { results := [.lit (.bool true)], args := [d1, d2] }
  | _ => none }
def treeKindsRow : OpenClaim := { program := "ytnmnmkdmnohbmaa", sum := "942502a24c265457bb826e5772d768b748b0813d95f4878540652d6e3626457b", func := "pergola/pergolalaw03.TreeKinds", spec := "treeKinds", unfollowed := true, recurses := true, plainKeys := false, apart := false }
def TreeKindsSaid : Prop := treeKindsRow.holds Try.pinned (OpenSpec.ofChange treeKindsSpec)

/-- ITS FALSE NEIGHBOUR: 'it returns false'. Refute it at one input. -/
def treeKindsWrong : ChangeSpec := { name := "treeKinds", fn := fun _ => fun
  | [d1, d2] => { results := [.lit (.bool false)], args := [d1, d2] }
  | _ => none }
def TreeKindsWrongFalsely : Prop := treeKindsRow.holds Try.pinned (OpenSpec.ofChange treeKindsWrong)

/-- 'pergolalaw03.TreeOrder': WHATEVER THE INPUT: true; the input reads as it did. -/
def treeOrderSpec : ChangeSpec := { name := "treeOrder", fn := fun _ => fun
  | [d1, d2] => { results := [.lit (.bool true)], args := [d1, d2] }
  | _ => none }
def treeOrderRow : OpenClaim := { program := "ytnmnmkdmnohbmaa", sum := "942502a24c265457bb826e5772d768b748b0813d95f4878540652d6e3626457b", func := "pergola/pergolalaw03.TreeOrder", spec := "treeOrder", plainKeys := false, apart := false }
def TreeOrderSaid : Prop := treeOrderRow.holds Try.pinned (OpenSpec.ofChange treeOrderSpec)

/-- ITS FALSE NEIGHBOUR: 'it returns false'. Refute it at one input. -/
def treeOrderWrong : ChangeSpec := { name := "treeOrder", fn := fun _ => fun
  | [d1, d2] => { results := [.lit (.bool false)], args := [d1, d2] }
  | _ => none }
def TreeOrderWrongFalsely : Prop := treeOrderRow.holds Try.pinned (OpenSpec.ofChange treeOrderWrong)

/-- 'pergolalaw03.TreePlaces': WHATEVER THE INPUT: true; the input reads as it did. -/
def treePlacesSpec : ChangeSpec := { name := "treePlaces", fn := fun _ => fun
  | [d1, d2, d3] => { results := [.lit (.bool true)], args := [d1, d2, d3] }
  | _ => none }
def treePlacesRow : OpenClaim := { program := "ytnmnmkdmnohbmaa", sum := "942502a24c265457bb826e5772d768b748b0813d95f4878540652d6e3626457b", func := "pergola/pergolalaw03.TreePlaces", spec := "treePlaces", recurses := true, loops := true, plainKeys := false, apart := false }
def TreePlacesSaid : Prop := treePlacesRow.holds Try.pinned (OpenSpec.ofChange treePlacesSpec)

/-- ITS FALSE NEIGHBOUR: 'it returns false'. Refute it at one input. -/
def treePlacesWrong : ChangeSpec := { name := "treePlaces", fn := fun _ => fun
  | [d1, d2, d3] => { results := [.lit (.bool false)], args := [d1, d2, d3] }
  | _ => none }
def TreePlacesWrongFalsely : Prop := treePlacesRow.holds Try.pinned (OpenSpec.ofChange treePlacesWrong)

/-- 'pergolalaw03.TreeNoTable': WHATEVER THE INPUT: true; the input reads as it did. -/
def treeNoTableSpec : ChangeSpec := { name := "treeNoTable", fn := fun _ => fun
  | [d1, d2, d3] => { results := [.lit (.bool true)], args := [d1, d2, d3] }
  | _ => none }
def treeNoTableRow : OpenClaim := { program := "ytnmnmkdmnohbmaa", sum := "942502a24c265457bb826e5772d768b748b0813d95f4878540652d6e3626457b", func := "pergola/pergolalaw03.TreeNoTable", spec := "treeNoTable", unfollowed := true, recurses := true, plainKeys := false, apart := false }
def TreeNoTableSaid : Prop := treeNoTableRow.holds Try.pinned (OpenSpec.ofChange treeNoTableSpec)

/-- ITS FALSE NEIGHBOUR: 'it returns false'. Refute it at one input. -/
def treeNoTableWrong : ChangeSpec := { name := "treeNoTable", fn := fun _ => fun
  | [d1, d2, d3] => { results := [.lit (.bool false)], args := [d1, d2, d3] }
  | _ => none }
def TreeNoTableWrongFalsely : Prop := treeNoTableRow.holds Try.pinned (OpenSpec.ofChange treeNoTableWrong)

/-- 'pergolalaw03.TreeEqual': WHATEVER THE INPUT: true; the input reads as it did. -/
def treeEqualSpec : ChangeSpec := { name := "treeEqual", fn := fun _ => fun
  | [d1, d2] => { results := [.lit (.bool true)], args := [d1, d2] }
  | _ => none }
def treeEqualRow : OpenClaim := { program := "ytnmnmkdmnohbmaa", sum := "942502a24c265457bb826e5772d768b748b0813d95f4878540652d6e3626457b", func := "pergola/pergolalaw03.TreeEqual", spec := "treeEqual", inPlace := ["math.Float64bits"], unfollowed := true, recurses := true, loops := true, plainKeys := false, apart := false }
def TreeEqualSaid : Prop := treeEqualRow.holds Try.pinned (OpenSpec.ofChange treeEqualSpec)

/-- ITS FALSE NEIGHBOUR: 'it returns false'. Refute it at one input. -/
def treeEqualWrong : ChangeSpec := { name := "treeEqual", fn := fun _ => fun
  | [d1, d2] => { results := [.lit (.bool false)], args := [d1, d2] }
  | _ => none }
def TreeEqualWrongFalsely : Prop := treeEqualRow.holds Try.pinned (OpenSpec.ofChange treeEqualWrong)

/-- 'pergolalaw03.TreeSameTurns': WHATEVER THE INPUT: true; the input reads as it did. -/
def treeSameTurnsSpec : ChangeSpec := { name := "treeSameTurns", fn := fun _ => fun
  | [d1, d2] => { results := [.lit (.bool true)], args := [d1, d2] }
  | _ => none }
def treeSameTurnsRow : OpenClaim := { program := "ytnmnmkdmnohbmaa", sum := "942502a24c265457bb826e5772d768b748b0813d95f4878540652d6e3626457b", func := "pergola/pergolalaw03.TreeSameTurns", spec := "treeSameTurns", inPlace := ["math.Float64bits"], unfollowed := true, recurses := true, loops := true, plainKeys := false, apart := false }
def TreeSameTurnsSaid : Prop := treeSameTurnsRow.holds Try.pinned (OpenSpec.ofChange treeSameTurnsSpec)

/-- ITS FALSE NEIGHBOUR: 'it returns false'. Refute it at one input. -/
def treeSameTurnsWrong : ChangeSpec := { name := "treeSameTurns", fn := fun _ => fun
  | [d1, d2] => { results := [.lit (.bool false)], args := [d1, d2] }
  | _ => none }
def TreeSameTurnsWrongFalsely : Prop := treeSameTurnsRow.holds Try.pinned (OpenSpec.ofChange treeSameTurnsWrong)

/-- 'pergolalaw03.TreeCounts': WHATEVER THE INPUT: true; the input reads as it did. -/
def treeCountsSpec : ChangeSpec := { name := "treeCounts", fn := fun _ => fun
  | [d] => { results := [.lit (.bool true)], args := [d] }
  | _ => none }
def treeCountsRow : OpenClaim := { program := "ytnmnmkdmnohbmaa", sum := "942502a24c265457bb826e5772d768b748b0813d95f4878540652d6e3626457b", func := "pergola/pergolalaw03.TreeCounts", spec := "treeCounts", inPlace := ["math.Float64bits"], unfollowed := true, recurses := true, loops := true, plainKeys := false, apart := false }
def TreeCountsSaid : Prop := treeCountsRow.holds Try.pinned (OpenSpec.ofChange treeCountsSpec)

/-- ITS FALSE NEIGHBOUR: 'it returns false'. Refute it at one input. -/
def treeCountsWrong : ChangeSpec := { name := "treeCounts", fn := fun _ => fun
  | [d] => { results := [.lit (.bool false)], args := [d] }
  | _ => none }
def TreeCountsWrongFalsely : Prop := treeCountsRow.holds Try.pinned (OpenSpec.ofChange treeCountsWrong)

/-- 'pergolalaw03.TreeSetGet': WHATEVER THE INPUT: true; the input reads as it did. -/
def treeSetGetSpec : ChangeSpec := { name := "treeSetGet", fn := fun _ => fun
  | [d1, d2, d3, d4] => { results := [.lit (.bool true)], args := [d1, d2, d3, d4] }
  | _ => none }
def treeSetGetRow : OpenClaim := { program := "ytnmnmkdmnohbmaa", sum := "942502a24c265457bb826e5772d768b748b0813d95f4878540652d6e3626457b", func := "pergola/pergolalaw03.TreeSetGet", spec := "treeSetGet", inPlace := ["math.Float64bits"], unfollowed := true, recurses := true, loops := true, plainKeys := false, apart := false }
def TreeSetGetSaid : Prop := treeSetGetRow.holds Try.pinned (OpenSpec.ofChange treeSetGetSpec)

/-- ITS FALSE NEIGHBOUR: 'it returns false'. Refute it at one input. -/
def treeSetGetWrong : ChangeSpec := { name := "treeSetGet", fn := fun _ => fun
  | [d1, d2, d3, d4] => { results := [.lit (.bool false)], args := [d1, d2, d3, d4] }
  | _ => none }
def TreeSetGetWrongFalsely : Prop := treeSetGetRow.holds Try.pinned (OpenSpec.ofChange treeSetGetWrong)

/-- 'pergolalaw03.TreeFaults': WHATEVER THE INPUT: true; the input reads as it did. -/
def treeFaultsSpec : ChangeSpec := { name := "treeFaults", fn := fun _ => fun
  | [d1, d2, d3] => { results := [.lit (.bool true)], args := [d1, d2, d3] }
  | _ => none }
def treeFaultsRow : OpenClaim := { program := "ytnmnmkdmnohbmaa", sum := "942502a24c265457bb826e5772d768b748b0813d95f4878540652d6e3626457b", func := "pergola/pergolalaw03.TreeFaults", spec := "treeFaults", unfollowed := true, recurses := true, plainKeys := false, apart := false }
def TreeFaultsSaid : Prop := treeFaultsRow.holds Try.pinned (OpenSpec.ofChange treeFaultsSpec)

/-- ITS FALSE NEIGHBOUR: 'it returns false'. Refute it at one input. -/
def treeFaultsWrong : ChangeSpec := { name := "treeFaults", fn := fun _ => fun
  | [d1, d2, d3] => { results := [.lit (.bool false)], args := [d1, d2, d3] }
  | _ => none }
def TreeFaultsWrongFalsely : Prop := treeFaultsRow.holds Try.pinned (OpenSpec.ofChange treeFaultsWrong)

/-- 'pergolalaw03.TreeFaultsLaws': WHATEVER THE INPUT: true; the input reads as it did. -/
def treeFaultsLawsSpec : ChangeSpec := { name := "treeFaultsLaws", fn := fun _ => fun
  | [d1, d2] => { results := [.lit (.bool true)], args := [d1, d2] }
  | _ => none }
def treeFaultsLawsRow : OpenClaim := { program := "ytnmnmkdmnohbmaa", sum := "942502a24c265457bb826e5772d768b748b0813d95f4878540652d6e3626457b", func := "pergola/pergolalaw03.TreeFaultsLaws", spec := "treeFaultsLaws", unfollowed := true, recurses := true, plainKeys := false, apart := false }
def TreeFaultsLawsSaid : Prop := treeFaultsLawsRow.holds Try.pinned (OpenSpec.ofChange treeFaultsLawsSpec)

/-- ITS FALSE NEIGHBOUR: 'it returns false'. Refute it at one input. -/
def treeFaultsLawsWrong : ChangeSpec := { name := "treeFaultsLaws", fn := fun _ => fun
  | [d1, d2] => { results := [.lit (.bool false)], args := [d1, d2] }
  | _ => none }
def TreeFaultsLawsWrongFalsely : Prop := treeFaultsLawsRow.holds Try.pinned (OpenSpec.ofChange treeFaultsLawsWrong)

/- THE SECOND FORM. 'bulk': how many values and letters a reading holds, each counted each time it is reached (what is shared counts as often as it is met; a slice's spare places count too). A statement '..UptoSaid' is the law's where the arguments, and the package variables that the reading takes, are together of bulk at most 1048576: NARROWER than '..Said'. Prove '..Said' where nothing that the law and all that it calls make is longer than what came in: it says more and counts as full. Else prove '..UptoSaid'. A law counts once. -/
mutual
def uptoBulk {H : Type} : DataW H → Nat
  | .lit (.string bytes) => bytes.length + 1
  | .lit _ => 1
  | .nil => 1
  | .ptr d => uptoBulk d + 1
  | .slice elems spare => uptoBulkAll elems + uptoBulkAll spare + 1
  | .agg parts => uptoBulkAll parts + 1
  | .iface _ d => uptoBulk d + 1
  | .map entries => uptoBulkEntries entries + 1
  | .held _ => 1
def uptoBulkAll {H : Type} : List (DataW H) → Nat
  | [] => 0
  | d :: r => uptoBulk d + uptoBulkAll r
def uptoBulkEntries {H : Type} : List (Lit × DataW H) → Nat
  | [] => 0
  | x :: r => uptoBulkEntry x + uptoBulkEntries r
def uptoBulkEntry {H : Type} : Lit × DataW H → Nat
  | (.string bytes, d) => bytes.length + uptoBulk d + 1
  | (_, d) => uptoBulk d + 1
 end
def uptoSmall : (H : Type) → List (DataW H) → Bool := fun _ ds => decide (uptoBulkAll ds ≤ 1048576)
def OpenSpec.upto (s : _root_.Go.ChangeSpec) : _root_.Go.OpenSpec := { _root_.Go.OpenSpec.ofChange s with cond := some uptoSmall }

/-- 'pergolalaw23.ResultNames', WHERE WHAT IT READS IS OF BULK AT MOST 1048576: true; the input reads as it did. -/
def resultNamesUptoRow : OpenClaim := { program := "ytnmnmkdmnohbmaa", sum := "942502a24c265457bb826e5772d768b748b0813d95f4878540652d6e3626457b", func := "pergola/pergolalaw23.ResultNames", spec := "resultNames", plainKeys := false, apart := false, narrowed := true }
def ResultNamesUptoSaid : Prop := resultNamesUptoRow.holds Try.pinned (OpenSpec.upto resultNamesSpec)

/-- 'pergolalaw03.TreeKinds', WHERE WHAT IT READS IS OF BULK AT MOST 1048576: true; the input reads as it did. -/
def treeKindsUptoRow : OpenClaim := { program := "ytnmnmkdmnohbmaa", sum := "942502a24c265457bb826e5772d768b748b0813d95f4878540652d6e3626457b", func := "pergola/pergolalaw03.TreeKinds", spec := "treeKinds", unfollowed := true, recurses := true, plainKeys := false, apart := false, narrowed := true }
def TreeKindsUptoSaid : Prop := treeKindsUptoRow.holds Try.pinned (OpenSpec.upto treeKindsSpec)

/-- 'pergolalaw03.TreeOrder', WHERE WHAT IT READS IS OF BULK AT MOST 1048576: true; the input reads as it did. -/
def treeOrderUptoRow : OpenClaim := { program := "ytnmnmkdmnohbmaa", sum := "942502a24c265457bb826e5772d768b748b0813d95f4878540652d6e3626457b", func := "pergola/pergolalaw03.TreeOrder", spec := "treeOrder", plainKeys := false, apart := false, narrowed := true }
def TreeOrderUptoSaid : Prop := treeOrderUptoRow.holds Try.pinned (OpenSpec.upto treeOrderSpec)

/-- 'pergolalaw03.TreePlaces', WHERE WHAT IT READS IS OF BULK AT MOST 1048576: true; the input reads as it did. -/
def treePlacesUptoRow : OpenClaim := { program := "ytnmnmkdmnohbmaa", sum := "942502a24c265457bb826e5772d768b748b0813d95f4878540652d6e3626457b", func := "pergola/pergolalaw03.TreePlaces", spec := "treePlaces", recurses := true, loops := true, plainKeys := false, apart := false, narrowed := true }
def TreePlacesUptoSaid : Prop := treePlacesUptoRow.holds Try.pinned (OpenSpec.upto treePlacesSpec)

/-- 'pergolalaw03.TreeNoTable', WHERE WHAT IT READS IS OF BULK AT MOST 1048576: true; the input reads as it did. -/
def treeNoTableUptoRow : OpenClaim := { program := "ytnmnmkdmnohbmaa", sum := "942502a24c265457bb826e5772d768b748b0813d95f4878540652d6e3626457b", func := "pergola/pergolalaw03.TreeNoTable", spec := "treeNoTable", unfollowed := true, recurses := true, plainKeys := false, apart := false, narrowed := true }
def TreeNoTableUptoSaid : Prop := treeNoTableUptoRow.holds Try.pinned (OpenSpec.upto treeNoTableSpec)

/-- 'pergolalaw03.TreeEqual', WHERE WHAT IT READS IS OF BULK AT MOST 1048576: true; the input reads as it did. -/
def treeEqualUptoRow : OpenClaim := { program := "ytnmnmkdmnohbmaa", sum := "942502a24c265457bb826e5772d768b748b0813d95f4878540652d6e3626457b", func := "pergola/pergolalaw03.TreeEqual", spec := "treeEqual", inPlace := ["math.Float64bits"], unfollowed := true, recurses := true, loops := true, plainKeys := false, apart := false, narrowed := true }
def TreeEqualUptoSaid : Prop := treeEqualUptoRow.holds Try.pinned (OpenSpec.upto treeEqualSpec)

/-- 'pergolalaw03.TreeSameTurns', WHERE WHAT IT READS IS OF BULK AT MOST 1048576: true; the input reads as it did. -/
def treeSameTurnsUptoRow : OpenClaim := { program := "ytnmnmkdmnohbmaa", sum := "942502a24c265457bb826e5772d768b748b0813d95f4878540652d6e3626457b", func := "pergola/pergolalaw03.TreeSameTurns", spec := "treeSameTurns", inPlace := ["math.Float64bits"], unfollowed := true, recurses := true, loops := true, plainKeys := false, apart := false, narrowed := true }
def TreeSameTurnsUptoSaid : Prop := treeSameTurnsUptoRow.holds Try.pinned (OpenSpec.upto treeSameTurnsSpec)

/-- 'pergolalaw03.TreeCounts', WHERE WHAT IT READS IS OF BULK AT MOST 1048576: true; the input reads as it did. -/
def treeCountsUptoRow : OpenClaim := { program := "ytnmnmkdmnohbmaa", sum := "942502a24c265457bb826e5772d768b748b0813d95f4878540652d6e3626457b", func := "pergola/pergolalaw03.TreeCounts", spec := "treeCounts", inPlace := ["math.Float64bits"], unfollowed := true, recurses := true, loops := true, plainKeys := false, apart := false, narrowed := true }
def TreeCountsUptoSaid : Prop := treeCountsUptoRow.holds Try.pinned (OpenSpec.upto treeCountsSpec)

/-- 'pergolalaw03.TreeSetGet', WHERE WHAT IT READS IS OF BULK AT MOST 1048576: true; the input reads as it did. -/
def treeSetGetUptoRow : OpenClaim := { program := "ytnmnmkdmnohbmaa", sum := "942502a24c265457bb826e5772d768b748b0813d95f4878540652d6e3626457b", func := "pergola/pergolalaw03.TreeSetGet", spec := "treeSetGet", inPlace := ["math.Float64bits"], unfollowed := true, recurses := true, loops := true, plainKeys := false, apart := false, narrowed := true }
def TreeSetGetUptoSaid : Prop := treeSetGetUptoRow.holds Try.pinned (OpenSpec.upto treeSetGetSpec)

/-- 'pergolalaw03.TreeFaults', WHERE WHAT IT READS IS OF BULK AT MOST 1048576: true; the input reads as it did. -/
def treeFaultsUptoRow : OpenClaim := { program := "ytnmnmkdmnohbmaa", sum := "942502a24c265457bb826e5772d768b748b0813d95f4878540652d6e3626457b", func := "pergola/pergolalaw03.TreeFaults", spec := "treeFaults", unfollowed := true, recurses := true, plainKeys := false, apart := false, narrowed := true }
def TreeFaultsUptoSaid : Prop := treeFaultsUptoRow.holds Try.pinned (OpenSpec.upto treeFaultsSpec)

/-- 'pergolalaw03.TreeFaultsLaws', WHERE WHAT IT READS IS OF BULK AT MOST 1048576: true; the input reads as it did. -/
def treeFaultsLawsUptoRow : OpenClaim := { program := "ytnmnmkdmnohbmaa", sum := "942502a24c265457bb826e5772d768b748b0813d95f4878540652d6e3626457b", func := "pergola/pergolalaw03.TreeFaultsLaws", spec := "treeFaultsLaws", unfollowed := true, recurses := true, plainKeys := false, apart := false, narrowed := true }
def TreeFaultsLawsUptoSaid : Prop := treeFaultsLawsUptoRow.holds Try.pinned (OpenSpec.upto treeFaultsLawsSpec)

end Rows
end Go.Proofs.Ytnmnmkdmnohbmaa

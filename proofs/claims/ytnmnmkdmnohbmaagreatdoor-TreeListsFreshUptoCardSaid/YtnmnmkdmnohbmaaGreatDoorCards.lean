/-
  DERIVED. GIVEN WITH THE SEED: THE CARDS: each row of YtnmnmkdmnohbmaaGreatDoorRows.lean that lists a variable, with what it lists TIED to the program's text (the seventh form; the later family's looks); each row that meets fmt, with fmt's text TOLD by the authors' own Lean function (tested against real Go, not proved from fmt's source: count such statements apart). THE CARD IS WHAT COUNTS. Prove the row's statement (the work); the ties are given (YtnmnmkdmnohbmaaGreatDoorTie.lean); close each card by the builder's one call (the guide's Derived/Test/ToyasCard.lean, 'card_holds'). Laid BY PROGRAM, IN A SANDBOX (cutbox-door.mjs). By AI agents, Wed Nov 11 2026. No macro, syntax, notation, axiom, sorry.
-/
import Derived.Test.YtnmnmkdmnohbmaaGreatDoorRows
import GoSem.ClaimSeven
namespace Go.Proofs.YtnmnmkdmnohbmaaGreatDoor
namespace Rows

/-- THE TIED CARD OF 'pergolalaw03.TreeListsFresh'. -/
def treeListsFreshCard : Claim7 := { stood := { row := treeListsFreshRow, standIns := [], harness := (true, "b4e6644eba77364dbc254f85f362728d9f4f13a2a9f083ec59f6a51654972294"), looks := true }, kinds := [], alts := [], laidByText := true, laidKinds := [.data, .data, .data, .data, .sentinel, .sentinel, .pinned], laidTests := true, laidLooks := .later }
def TreeListsFreshCardSaid : Prop := Claim7.holds Tryz.pinned (.plain (OpenSpec.ofChange treeListsFreshSpec)) treeListsFreshCard

/-- THE SECOND FORM's CARD OF 'pergolalaw03.TreeListsFresh'. -/
def treeListsFreshUptoCard : Claim7 := { stood := { row := treeListsFreshUptoRow, standIns := [], harness := (true, "b4e6644eba77364dbc254f85f362728d9f4f13a2a9f083ec59f6a51654972294"), looks := true }, kinds := [], alts := [], laidByText := true, laidKinds := [.data, .data, .data, .data, .sentinel, .sentinel, .pinned], laidTests := true, laidLooks := .later }
def TreeListsFreshUptoCardSaid : Prop := Claim7.holds Tryz.pinned (.plain (OpenSpec.upto treeListsFreshSpec)) treeListsFreshUptoCard
end Rows
end Go.Proofs.YtnmnmkdmnohbmaaGreatDoor

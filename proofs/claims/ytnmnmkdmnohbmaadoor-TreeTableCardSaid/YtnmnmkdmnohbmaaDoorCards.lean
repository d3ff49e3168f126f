/-
  DERIVED. GIVEN WITH THE SEED: THE CARDS: each row of YtnmnmkdmnohbmaaDoorRows.lean that lists a variable, with what it lists TIED to the program's text (the seventh form; the later family's looks); each row that meets fmt, with fmt's text TOLD by the authors' own Lean function (tested against real Go, not proved from fmt's source: count such statements apart). THE CARD IS WHAT COUNTS. Prove the row's statement (the work); the ties are given (YtnmnmkdmnohbmaaDoorTie.lean); close each card by the builder's one call (the guide's Derived/Test/ToyasCard.lean, 'card_holds'). Laid BY PROGRAM, IN A SANDBOX (cutbox-door.mjs). By AI agents, Wed Nov 11 2026. No macro, syntax, notation, axiom, sorry.
-/
import Derived.Test.YtnmnmkdmnohbmaaDoorRows
import GoSem.ClaimSeven
namespace Go.Proofs.YtnmnmkdmnohbmaaDoor
namespace Rows

/-- THE TIED CARD OF 'pergolalaw03.TreeSound'. -/
def treeSoundCard : Claim7 := { stood := { row := treeSoundRow, standIns := [], harness := (true, "67d3e70c46bbb0d1a4da95905dc74b307cb4104fb64be792db9a0dfd755af1b8"), looks := true }, kinds := [], alts := [], laidByText := true, laidKinds := [.data, .pinned], laidTests := true, laidLooks := .later }
def TreeSoundCardSaid : Prop := Claim7.holds Tryd.pinned (.plain (OpenSpec.ofChange treeSoundSpec)) treeSoundCard

/-- THE TIED CARD OF 'pergolalaw03.TreeFresh'. -/
def treeFreshCard : Claim7 := { stood := { row := treeFreshRow, standIns := [], harness := (true, "67d3e70c46bbb0d1a4da95905dc74b307cb4104fb64be792db9a0dfd755af1b8"), looks := true }, kinds := [], alts := [], laidByText := true, laidKinds := [.data, .data, .data], laidTests := true, laidLooks := .later }
def TreeFreshCardSaid : Prop := Claim7.holds Tryd.pinned (.plain (OpenSpec.ofChange treeFreshSpec)) treeFreshCard

/-- THE TIED CARD OF 'pergolalaw03.TreeTable'. -/
def treeTableCard : Claim7 := { stood := { row := treeTableRow, standIns := [], harness := (true, "67d3e70c46bbb0d1a4da95905dc74b307cb4104fb64be792db9a0dfd755af1b8"), looks := true }, kinds := [], alts := [], laidByText := true, laidKinds := [.data, .data, .data], laidTests := true, laidLooks := .later }
def TreeTableCardSaid : Prop := Claim7.holds Tryd.pinned (.plain (OpenSpec.ofChange treeTableSpec)) treeTableCard

/-- THE TIED CARD OF 'pergolalaw03.TreeWalkGets'. -/
def treeWalkGetsCard : Claim7 := { stood := { row := treeWalkGetsRow, standIns := [], harness := (true, "67d3e70c46bbb0d1a4da95905dc74b307cb4104fb64be792db9a0dfd755af1b8"), looks := true }, kinds := [], alts := [], laidByText := true, laidKinds := [.data, .pinned], laidTests := true, laidLooks := .later }
def TreeWalkGetsCardSaid : Prop := Claim7.holds Tryd.pinned (.plain (OpenSpec.ofChange treeWalkGetsSpec)) treeWalkGetsCard

/-- THE TIED CARD OF 'pergolalaw03.TreeOrderLaws'. -/
def treeOrderLawsCard : Claim7 := { stood := { row := treeOrderLawsRow, standIns := [], harness := (true, "67d3e70c46bbb0d1a4da95905dc74b307cb4104fb64be792db9a0dfd755af1b8"), looks := true }, kinds := [], alts := [], laidByText := true, laidKinds := [.data, .data, .data], laidTests := true, laidLooks := .later }
def TreeOrderLawsCardSaid : Prop := Claim7.holds Tryd.pinned (.plain (OpenSpec.ofChange treeOrderLawsSpec)) treeOrderLawsCard

/-- THE TIED CARD OF 'pergolalaw03.TreeKeeps'. -/
def treeKeepsCard : Claim7 := { stood := { row := treeKeepsRow, standIns := [], harness := (true, "67d3e70c46bbb0d1a4da95905dc74b307cb4104fb64be792db9a0dfd755af1b8"), looks := true }, kinds := [], alts := [], laidByText := true, laidKinds := [.data, .data, .data, .data, .pinned], laidTests := true, laidLooks := .later }
def TreeKeepsCardSaid : Prop := Claim7.holds Tryd.pinned (.plain (OpenSpec.ofChange treeKeepsSpec)) treeKeepsCard

/-- THE TIED CARD OF 'pergolalaw03.TreePathTexts'. -/
def treePathTextsCard : Claim7 := { stood := { row := treePathTextsRow, standIns := [], harness := (true, "67d3e70c46bbb0d1a4da95905dc74b307cb4104fb64be792db9a0dfd755af1b8"), looks := true }, kinds := [], alts := [], laidByText := true, laidKinds := [.data, .data, .data, .data, .sentinel, .sentinel, .pinned], laidTests := true, laidLooks := .later }
def TreePathTextsCardSaid : Prop := Claim7.holds Tryd.pinned (.plain (OpenSpec.ofChange treePathTextsSpec)) treePathTextsCard

/-- THE TIED CARD OF 'pergolalaw03.TreePathBack'. -/
def treePathBackCard : Claim7 := { stood := { row := treePathBackRow, standIns := [], harness := (true, "67d3e70c46bbb0d1a4da95905dc74b307cb4104fb64be792db9a0dfd755af1b8"), looks := true }, kinds := [], alts := [], laidByText := true, laidKinds := [.data, .data, .data, .data, .sentinel, .sentinel, .pinned], laidTests := true, laidLooks := .later }
def TreePathBackCardSaid : Prop := Claim7.holds Tryd.pinned (.plain (OpenSpec.ofChange treePathBackSpec)) treePathBackCard

/-- THE SECOND FORM's CARD OF 'pergolalaw03.TreeSound'. -/
def treeSoundUptoCard : Claim7 := { stood := { row := treeSoundUptoRow, standIns := [], harness := (true, "67d3e70c46bbb0d1a4da95905dc74b307cb4104fb64be792db9a0dfd755af1b8"), looks := true }, kinds := [], alts := [], laidByText := true, laidKinds := [.data, .pinned], laidTests := true, laidLooks := .later }
def TreeSoundUptoCardSaid : Prop := Claim7.holds Tryd.pinned (.plain (OpenSpec.upto treeSoundSpec)) treeSoundUptoCard

/-- THE SECOND FORM's CARD OF 'pergolalaw03.TreeFresh'. -/
def treeFreshUptoCard : Claim7 := { stood := { row := treeFreshUptoRow, standIns := [], harness := (true, "67d3e70c46bbb0d1a4da95905dc74b307cb4104fb64be792db9a0dfd755af1b8"), looks := true }, kinds := [], alts := [], laidByText := true, laidKinds := [.data, .data, .data], laidTests := true, laidLooks := .later }
def TreeFreshUptoCardSaid : Prop := Claim7.holds Tryd.pinned (.plain (OpenSpec.upto treeFreshSpec)) treeFreshUptoCard

/-- THE SECOND FORM's CARD OF 'pergolalaw03.TreeTable'. -/
def treeTableUptoCard : Claim7 := { stood := { row := treeTableUptoRow, standIns := [], harness := (true, "67d3e70c46bbb0d1a4da95905dc74b307cb4104fb64be792db9a0dfd755af1b8"), looks := true }, kinds := [], alts := [], laidByText := true, laidKinds := [.data, .data, .data], laidTests := true, laidLooks := .later }
def TreeTableUptoCardSaid : Prop := Claim7.holds Tryd.pinned (.plain (OpenSpec.upto treeTableSpec)) treeTableUptoCard

/-- THE SECOND FORM's CARD OF 'pergolalaw03.TreeWalkGets'. -/
def treeWalkGetsUptoCard : Claim7 := { stood := { row := treeWalkGetsUptoRow, standIns := [], harness := (true, "67d3e70c46bbb0d1a4da95905dc74b307cb4104fb64be792db9a0dfd755af1b8"), looks := true }, kinds := [], alts := [], laidByText := true, laidKinds := [.data, .pinned], laidTests := true, laidLooks := .later }
def TreeWalkGetsUptoCardSaid : Prop := Claim7.holds Tryd.pinned (.plain (OpenSpec.upto treeWalkGetsSpec)) treeWalkGetsUptoCard

/-- THE SECOND FORM's CARD OF 'pergolalaw03.TreeOrderLaws'. -/
def treeOrderLawsUptoCard : Claim7 := { stood := { row := treeOrderLawsUptoRow, standIns := [], harness := (true, "67d3e70c46bbb0d1a4da95905dc74b307cb4104fb64be792db9a0dfd755af1b8"), looks := true }, kinds := [], alts := [], laidByText := true, laidKinds := [.data, .data, .data], laidTests := true, laidLooks := .later }
def TreeOrderLawsUptoCardSaid : Prop := Claim7.holds Tryd.pinned (.plain (OpenSpec.upto treeOrderLawsSpec)) treeOrderLawsUptoCard

/-- THE SECOND FORM's CARD OF 'pergolalaw03.TreeKeeps'. -/
def treeKeepsUptoCard : Claim7 := { stood := { row := treeKeepsUptoRow, standIns := [], harness := (true, "67d3e70c46bbb0d1a4da95905dc74b307cb4104fb64be792db9a0dfd755af1b8"), looks := true }, kinds := [], alts := [], laidByText := true, laidKinds := [.data, .data, .data, .data, .pinned], laidTests := true, laidLooks := .later }
def TreeKeepsUptoCardSaid : Prop := Claim7.holds Tryd.pinned (.plain (OpenSpec.upto treeKeepsSpec)) treeKeepsUptoCard

/-- THE SECOND FORM's CARD OF 'pergolalaw03.TreePathTexts'. -/
def treePathTextsUptoCard : Claim7 := { stood := { row := treePathTextsUptoRow, standIns := [], harness := (true, "67d3e70c46bbb0d1a4da95905dc74b307cb4104fb64be792db9a0dfd755af1b8"), looks := true }, kinds := [], alts := [], laidByText := true, laidKinds := [.data, .data, .data, .data, .sentinel, .sentinel, .pinned], laidTests := true, laidLooks := .later }
def TreePathTextsUptoCardSaid : Prop := Claim7.holds Tryd.pinned (.plain (OpenSpec.upto treePathTextsSpec)) treePathTextsUptoCard

/-- THE SECOND FORM's CARD OF 'pergolalaw03.TreePathBack'. -/
def treePathBackUptoCard : Claim7 := { stood := { row := treePathBackUptoRow, standIns := [], harness := (true, "67d3e70c46bbb0d1a4da95905dc74b307cb4104fb64be792db9a0dfd755af1b8"), looks := true }, kinds := [], alts := [], laidByText := true, laidKinds := [.data, .data, .data, .data, .sentinel, .sentinel, .pinned], laidTests := true, laidLooks := .later }
def TreePathBackUptoCardSaid : Prop := Claim7.holds Tryd.pinned (.plain (OpenSpec.upto treePathBackSpec)) treePathBackUptoCard
end Rows
end Go.Proofs.YtnmnmkdmnohbmaaDoor

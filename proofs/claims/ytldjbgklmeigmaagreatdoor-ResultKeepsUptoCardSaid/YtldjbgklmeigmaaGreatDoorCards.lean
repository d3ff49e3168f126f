/-
  DERIVED. GIVEN WITH THE SEED: THE CARDS: each row of YtldjbgklmeigmaaGreatDoorRows.lean that lists a variable, with what it lists TIED to the program's text (the seventh form; the later family's looks); each row that meets fmt, with fmt's text TOLD by the authors' own Lean function (tested against real Go, not proved from fmt's source: count such statements apart). THE CARD IS WHAT COUNTS. Prove the row's statement (the work); the ties are given (YtldjbgklmeigmaaGreatDoorTie.lean); close each card by the builder's one call (the guide's Derived/Test/ToyasCard.lean, 'card_holds'). Laid BY PROGRAM, IN A SANDBOX (cutbox-door.mjs). By AI agents, Wed Nov 11 2026. No macro, syntax, notation, axiom, sorry.
-/
import Derived.Test.YtldjbgklmeigmaaGreatDoorRows
import GoSem.ClaimSeven
namespace Go.Proofs.YtldjbgklmeigmaaGreatDoor
namespace Rows

/-- THE TIED CARD OF 'pergolalaw23.ResultEnds'. -/
def resultEndsCard : Claim7 := { stood := { row := resultEndsRow, standIns := [], harness := (true, "4ae2287e476949e1ab60143a5fd279763a170f8f28bb534700449b930da88bbf"), looks := false }, kinds := [], alts := [], laidByText := true, laidKinds := [.data, .data, .data, .data, .data, .pinned, .pinned, .pinned], laidTests := true, laidLooks := .later }
def ResultEndsCardSaid : Prop := Claim7.holds Tryz.pinned (.plain (OpenSpec.ofChange resultEndsSpec)) resultEndsCard

/-- THE TIED CARD OF 'pergolalaw23.ResultKeeps'. -/
def resultKeepsCard : Claim7 := { stood := { row := resultKeepsRow, standIns := [], harness := (true, "4ae2287e476949e1ab60143a5fd279763a170f8f28bb534700449b930da88bbf"), looks := false }, kinds := [], alts := [], laidByText := true, laidKinds := [.data, .data, .data, .data, .data, .pinned, .pinned, .pinned], laidTests := true, laidLooks := .later }
def ResultKeepsCardSaid : Prop := Claim7.holds Tryz.pinned (.plain (OpenSpec.ofChange resultKeepsSpec)) resultKeepsCard

/-- THE SECOND FORM's CARD OF 'pergolalaw23.ResultEnds'. -/
def resultEndsUptoCard : Claim7 := { stood := { row := resultEndsUptoRow, standIns := [], harness := (true, "4ae2287e476949e1ab60143a5fd279763a170f8f28bb534700449b930da88bbf"), looks := false }, kinds := [], alts := [], laidByText := true, laidKinds := [.data, .data, .data, .data, .data, .pinned, .pinned, .pinned], laidTests := true, laidLooks := .later }
def ResultEndsUptoCardSaid : Prop := Claim7.holds Tryz.pinned (.plain (OpenSpec.upto resultEndsSpec)) resultEndsUptoCard

/-- THE SECOND FORM's CARD OF 'pergolalaw23.ResultKeeps'. -/
def resultKeepsUptoCard : Claim7 := { stood := { row := resultKeepsUptoRow, standIns := [], harness := (true, "4ae2287e476949e1ab60143a5fd279763a170f8f28bb534700449b930da88bbf"), looks := false }, kinds := [], alts := [], laidByText := true, laidKinds := [.data, .data, .data, .data, .data, .pinned, .pinned, .pinned], laidTests := true, laidLooks := .later }
def ResultKeepsUptoCardSaid : Prop := Claim7.holds Tryz.pinned (.plain (OpenSpec.upto resultKeepsSpec)) resultKeepsUptoCard
end Rows
end Go.Proofs.YtldjbgklmeigmaaGreatDoor

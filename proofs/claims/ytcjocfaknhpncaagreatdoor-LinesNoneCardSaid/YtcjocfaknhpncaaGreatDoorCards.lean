/-
  DERIVED. GIVEN WITH THE SEED: THE CARDS: each row of YtcjocfaknhpncaaGreatDoorRows.lean that lists a variable, with what it lists TIED to the program's text (the seventh form; the later family's looks); each row that meets fmt, with fmt's text TOLD by the authors' own Lean function (tested against real Go, not proved from fmt's source: count such statements apart). THE CARD IS WHAT COUNTS. Prove the row's statement (the work); the ties are given (YtcjocfaknhpncaaGreatDoorTie.lean); close each card by the builder's one call (the guide's Derived/Test/ToyasCard.lean, 'card_holds'). Laid BY PROGRAM, IN A SANDBOX (cutbox-door.mjs). By AI agents, Wed Nov 11 2026. No macro, syntax, notation, axiom, sorry.
-/
import Derived.Test.YtcjocfaknhpncaaGreatDoorRows
import GoSem.ClaimSeven
namespace Go.Proofs.YtcjocfaknhpncaaGreatDoor
namespace Rows

/-- THE TIED CARD OF 'firkinlaw34.LinesNone'. -/
def linesNoneCard : Claim7 := { stood := { row := linesNoneRow, standIns := [], harness := (true, "d790d6963607c2bb4dd06e1a98c9b7029b52c4d1277bee97b87227f02d0d0623"), looks := true }, kinds := [], alts := [], laidByText := true, laidKinds := [.data, .data, .data, .data, .data, .sentinel, .sentinel, .data, .pinned], laidTests := true, laidLooks := .later }
def LinesNoneCardSaid : Prop := Claim7.holds Tryz.pinned (.plain (OpenSpec.ofChange linesNoneSpec)) linesNoneCard

/-- THE SECOND FORM's CARD OF 'firkinlaw34.LinesNone'. -/
def linesNoneUptoCard : Claim7 := { stood := { row := linesNoneUptoRow, standIns := [], harness := (true, "d790d6963607c2bb4dd06e1a98c9b7029b52c4d1277bee97b87227f02d0d0623"), looks := true }, kinds := [], alts := [], laidByText := true, laidKinds := [.data, .data, .data, .data, .data, .sentinel, .sentinel, .data, .pinned], laidTests := true, laidLooks := .later }
def LinesNoneUptoCardSaid : Prop := Claim7.holds Tryz.pinned (.plain (OpenSpec.upto linesNoneSpec)) linesNoneUptoCard
end Rows
end Go.Proofs.YtcjocfaknhpncaaGreatDoor

/-
  DERIVED. GIVEN WITH THE SEED: THE CARDS: each row of YtpkocidcfnlbiaaDoorRows.lean that lists a variable, with what it lists TIED to the program's text (the seventh form; the later family's looks); each row that meets fmt, with fmt's text TOLD by the authors' own Lean function (tested against real Go, not proved from fmt's source: count such statements apart). THE CARD IS WHAT COUNTS. Prove the row's statement (the work); the ties are given (YtpkocidcfnlbiaaDoorTie.lean); close each card by the builder's one call (the guide's Derived/Test/ToyasCard.lean, 'card_holds'). Laid BY PROGRAM, IN A SANDBOX (cutbox-door.mjs). By AI agents, Wed Nov 11 2026. No macro, syntax, notation, axiom, sorry.
-/
import Derived.Test.YtpkocidcfnlbiaaDoorRows
import GoSem.ClaimSeven
namespace Go.Proofs.YtpkocidcfnlbiaaDoor
namespace Rows

/-- THE TIED CARD OF 'ringroadlaw20.ClimbSpaces'. -/
def climbSpacesCard : Claim7 := { stood := { row := climbSpacesRow, standIns := [], harness := (true, "3fc009c41a5d1c7ac9c9785d13b3b4f6794165b5797502dd71913783695fa27a"), looks := false }, kinds := [], alts := [], laidByText := true, laidKinds := [.data], laidTests := true, laidLooks := .later }
def ClimbSpacesCardSaid : Prop := Claim7.holds Tryd.pinned (.plain (OpenSpec.ofChange climbSpacesSpec)) climbSpacesCard

/-- THE SECOND FORM's CARD OF 'ringroadlaw20.ClimbSpaces'. -/
def climbSpacesUptoCard : Claim7 := { stood := { row := climbSpacesUptoRow, standIns := [], harness := (true, "3fc009c41a5d1c7ac9c9785d13b3b4f6794165b5797502dd71913783695fa27a"), looks := false }, kinds := [], alts := [], laidByText := true, laidKinds := [.data], laidTests := true, laidLooks := .later }
def ClimbSpacesUptoCardSaid : Prop := Claim7.holds Tryd.pinned (.plain (OpenSpec.upto climbSpacesSpec)) climbSpacesUptoCard
end Rows
end Go.Proofs.YtpkocidcfnlbiaaDoor

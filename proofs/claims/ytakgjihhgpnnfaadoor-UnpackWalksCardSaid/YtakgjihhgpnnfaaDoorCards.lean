/-
  DERIVED. GIVEN WITH THE SEED: THE CARDS: each row of YtakgjihhgpnnfaaDoorRows.lean that lists a variable, with what it lists TIED to the program's text (the seventh form; the later family's looks); each row that meets fmt, with fmt's text TOLD by the authors' own Lean function (tested against real Go, not proved from fmt's source: count such statements apart). THE CARD IS WHAT COUNTS. Prove the row's statement (the work); the ties are given (YtakgjihhgpnnfaaDoorTie.lean); close each card by the builder's one call (the guide's Derived/Test/ToyasCard.lean, 'card_holds'). Laid BY PROGRAM, IN A SANDBOX (cutbox-door.mjs). By AI agents, Wed Nov 11 2026. No macro, syntax, notation, axiom, sorry.
-/
import Derived.Test.YtakgjihhgpnnfaaDoorRows
import GoSem.ClaimSeven
namespace Go.Proofs.YtakgjihhgpnnfaaDoor
namespace Rows

/-- THE TIED CARD OF 'ringroadlaw21.UnpackWalks'. -/
def unpackWalksCard : Claim7 := { stood := { row := unpackWalksRow, standIns := [], harness := (true, "cdf345dfe9e5fa3384167e286f79972e8b750b27c10fc8922ed5a4dedba8c108"), looks := false }, kinds := [], alts := [], laidByText := true, laidKinds := [.data], laidTests := true, laidLooks := .later }
def UnpackWalksCardSaid : Prop := Claim7.holds Tryd.pinned (.plain (OpenSpec.ofChange unpackWalksSpec)) unpackWalksCard

/-- THE TIED CARD OF 'ringroadlaw21.UnpackHalves'. -/
def unpackHalvesCard : Claim7 := { stood := { row := unpackHalvesRow, standIns := [], harness := (true, "cdf345dfe9e5fa3384167e286f79972e8b750b27c10fc8922ed5a4dedba8c108"), looks := false }, kinds := [], alts := [], laidByText := true, laidKinds := [.data], laidTests := true, laidLooks := .later }
def UnpackHalvesCardSaid : Prop := Claim7.holds Tryd.pinned (.plain (OpenSpec.ofChange unpackHalvesSpec)) unpackHalvesCard

/-- THE TIED CARD OF 'ringroadlaw17.DepsHangs'. -/
def depsHangsCard : Claim7 := { stood := { row := depsHangsRow, standIns := [], harness := (true, "cdf345dfe9e5fa3384167e286f79972e8b750b27c10fc8922ed5a4dedba8c108"), looks := false }, kinds := [], alts := [], laidByText := true, laidKinds := [.data], laidTests := true, laidLooks := .later }
def DepsHangsCardSaid : Prop := Claim7.holds Tryd.pinned (.plain (OpenSpec.ofChange depsHangsSpec)) depsHangsCard

/-- THE TIED CARD OF 'ringroadlaw17.DepsEnough'. -/
def depsEnoughCard : Claim7 := { stood := { row := depsEnoughRow, standIns := [], harness := (true, "cdf345dfe9e5fa3384167e286f79972e8b750b27c10fc8922ed5a4dedba8c108"), looks := false }, kinds := [], alts := [], laidByText := true, laidKinds := [.data], laidTests := true, laidLooks := .later }
def DepsEnoughCardSaid : Prop := Claim7.holds Tryd.pinned (.plain (OpenSpec.ofChange depsEnoughSpec)) depsEnoughCard

/-- THE SECOND FORM's CARD OF 'ringroadlaw21.UnpackWalks'. -/
def unpackWalksUptoCard : Claim7 := { stood := { row := unpackWalksUptoRow, standIns := [], harness := (true, "cdf345dfe9e5fa3384167e286f79972e8b750b27c10fc8922ed5a4dedba8c108"), looks := false }, kinds := [], alts := [], laidByText := true, laidKinds := [.data], laidTests := true, laidLooks := .later }
def UnpackWalksUptoCardSaid : Prop := Claim7.holds Tryd.pinned (.plain (OpenSpec.upto unpackWalksSpec)) unpackWalksUptoCard

/-- THE SECOND FORM's CARD OF 'ringroadlaw21.UnpackHalves'. -/
def unpackHalvesUptoCard : Claim7 := { stood := { row := unpackHalvesUptoRow, standIns := [], harness := (true, "cdf345dfe9e5fa3384167e286f79972e8b750b27c10fc8922ed5a4dedba8c108"), looks := false }, kinds := [], alts := [], laidByText := true, laidKinds := [.data], laidTests := true, laidLooks := .later }
def UnpackHalvesUptoCardSaid : Prop := Claim7.holds Tryd.pinned (.plain (OpenSpec.upto unpackHalvesSpec)) unpackHalvesUptoCard

/-- THE SECOND FORM's CARD OF 'ringroadlaw17.DepsHangs'. -/
def depsHangsUptoCard : Claim7 := { stood := { row := depsHangsUptoRow, standIns := [], harness := (true, "cdf345dfe9e5fa3384167e286f79972e8b750b27c10fc8922ed5a4dedba8c108"), looks := false }, kinds := [], alts := [], laidByText := true, laidKinds := [.data], laidTests := true, laidLooks := .later }
def DepsHangsUptoCardSaid : Prop := Claim7.holds Tryd.pinned (.plain (OpenSpec.upto depsHangsSpec)) depsHangsUptoCard

/-- THE SECOND FORM's CARD OF 'ringroadlaw17.DepsEnough'. -/
def depsEnoughUptoCard : Claim7 := { stood := { row := depsEnoughUptoRow, standIns := [], harness := (true, "cdf345dfe9e5fa3384167e286f79972e8b750b27c10fc8922ed5a4dedba8c108"), looks := false }, kinds := [], alts := [], laidByText := true, laidKinds := [.data], laidTests := true, laidLooks := .later }
def DepsEnoughUptoCardSaid : Prop := Claim7.holds Tryd.pinned (.plain (OpenSpec.upto depsEnoughSpec)) depsEnoughUptoCard
end Rows
end Go.Proofs.YtakgjihhgpnnfaaDoor

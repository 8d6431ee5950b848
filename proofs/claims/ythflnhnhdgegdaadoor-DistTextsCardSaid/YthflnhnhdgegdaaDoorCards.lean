/-
  DERIVED. GIVEN WITH THE SEED: THE CARDS: each row of YthflnhnhdgegdaaDoorRows.lean that lists a variable, with what it lists TIED to the program's text (the seventh form; the later family's looks); each row that meets fmt, with fmt's text TOLD by the authors' own Lean function (tested against real Go, not proved from fmt's source: count such statements apart). THE CARD IS WHAT COUNTS. Prove the row's statement (the work); the ties are given (YthflnhnhdgegdaaDoorTie.lean); close each card by the builder's one call (the guide's Derived/Test/ToyasCard.lean, 'card_holds'). Laid BY PROGRAM, IN A SANDBOX (cutbox-door.mjs). By AI agents, Wed Nov 11 2026. No macro, syntax, notation, axiom, sorry.
-/
import Derived.Test.YthflnhnhdgegdaaDoorRows
import GoSem.ClaimSeven
namespace Go.Proofs.YthflnhnhdgegdaaDoor
namespace Rows

/-- THE TIED CARD OF 'ringroadlaw01.DistTexts'. -/
def distTextsCard : Claim7 := { stood := { row := distTextsRow, standIns := [], harness := (true, "4137fd9fe0bfb5c575b44c3da08dc6f148ca9e6ea84fa4a95b6895defa548a9f"), looks := true }, kinds := [], alts := [], laidByText := true, laidKinds := [.data, .data, .data, .sentinel, .sentinel], laidTests := true, laidLooks := .later }
def DistTextsCardSaid : Prop := Claim7.holds Tryd.pinned (.plain (OpenSpec.ofChange distTextsSpec)) distTextsCard

/-- THE TIED CARD OF 'ringroadlaw01.DistRings'. -/
def distRingsCard : Claim7 := { stood := { row := distRingsRow, standIns := [], harness := (true, "4137fd9fe0bfb5c575b44c3da08dc6f148ca9e6ea84fa4a95b6895defa548a9f"), looks := true }, kinds := [], alts := [], laidByText := true, laidKinds := [.data, .data, .data, .sentinel, .sentinel], laidTests := true, laidLooks := .later }
def DistRingsCardSaid : Prop := Claim7.holds Tryd.pinned (.plain (OpenSpec.ofChange distRingsSpec)) distRingsCard

/-- THE TIED CARD OF 'ringroadlaw01.DistAdds'. -/
def distAddsCard : Claim7 := { stood := { row := distAddsRow, standIns := [], harness := (true, "4137fd9fe0bfb5c575b44c3da08dc6f148ca9e6ea84fa4a95b6895defa548a9f"), looks := true }, kinds := [], alts := [], laidByText := true, laidKinds := [.data, .data, .data, .sentinel, .sentinel], laidTests := true, laidLooks := .later }
def DistAddsCardSaid : Prop := Claim7.holds Tryd.pinned (.plain (OpenSpec.ofChange distAddsSpec)) distAddsCard

/-- THE TIED CARD OF 'ringroadlaw01.DistOrders'. -/
def distOrdersCard : Claim7 := { stood := { row := distOrdersRow, standIns := [], harness := (true, "4137fd9fe0bfb5c575b44c3da08dc6f148ca9e6ea84fa4a95b6895defa548a9f"), looks := true }, kinds := [], alts := [], laidByText := true, laidKinds := [.data, .data, .data, .sentinel, .sentinel], laidTests := true, laidLooks := .later }
def DistOrdersCardSaid : Prop := Claim7.holds Tryd.pinned (.plain (OpenSpec.ofChange distOrdersSpec)) distOrdersCard

/-- THE TIED CARD OF 'ringroadlaw01.DistBack'. -/
def distBackCard : Claim7 := { stood := { row := distBackRow, standIns := [], harness := (true, "4137fd9fe0bfb5c575b44c3da08dc6f148ca9e6ea84fa4a95b6895defa548a9f"), looks := true }, kinds := [], alts := [], laidByText := true, laidKinds := [.data, .data, .data, .sentinel, .sentinel], laidTests := true, laidLooks := .later }
def DistBackCardSaid : Prop := Claim7.holds Tryd.pinned (.plain (OpenSpec.ofChange distBackSpec)) distBackCard

/-- THE SECOND FORM's CARD OF 'ringroadlaw01.DistTexts'. -/
def distTextsUptoCard : Claim7 := { stood := { row := distTextsUptoRow, standIns := [], harness := (true, "4137fd9fe0bfb5c575b44c3da08dc6f148ca9e6ea84fa4a95b6895defa548a9f"), looks := true }, kinds := [], alts := [], laidByText := true, laidKinds := [.data, .data, .data, .sentinel, .sentinel], laidTests := true, laidLooks := .later }
def DistTextsUptoCardSaid : Prop := Claim7.holds Tryd.pinned (.plain (OpenSpec.upto distTextsSpec)) distTextsUptoCard

/-- THE SECOND FORM's CARD OF 'ringroadlaw01.DistRings'. -/
def distRingsUptoCard : Claim7 := { stood := { row := distRingsUptoRow, standIns := [], harness := (true, "4137fd9fe0bfb5c575b44c3da08dc6f148ca9e6ea84fa4a95b6895defa548a9f"), looks := true }, kinds := [], alts := [], laidByText := true, laidKinds := [.data, .data, .data, .sentinel, .sentinel], laidTests := true, laidLooks := .later }
def DistRingsUptoCardSaid : Prop := Claim7.holds Tryd.pinned (.plain (OpenSpec.upto distRingsSpec)) distRingsUptoCard

/-- THE SECOND FORM's CARD OF 'ringroadlaw01.DistAdds'. -/
def distAddsUptoCard : Claim7 := { stood := { row := distAddsUptoRow, standIns := [], harness := (true, "4137fd9fe0bfb5c575b44c3da08dc6f148ca9e6ea84fa4a95b6895defa548a9f"), looks := true }, kinds := [], alts := [], laidByText := true, laidKinds := [.data, .data, .data, .sentinel, .sentinel], laidTests := true, laidLooks := .later }
def DistAddsUptoCardSaid : Prop := Claim7.holds Tryd.pinned (.plain (OpenSpec.upto distAddsSpec)) distAddsUptoCard

/-- THE SECOND FORM's CARD OF 'ringroadlaw01.DistOrders'. -/
def distOrdersUptoCard : Claim7 := { stood := { row := distOrdersUptoRow, standIns := [], harness := (true, "4137fd9fe0bfb5c575b44c3da08dc6f148ca9e6ea84fa4a95b6895defa548a9f"), looks := true }, kinds := [], alts := [], laidByText := true, laidKinds := [.data, .data, .data, .sentinel, .sentinel], laidTests := true, laidLooks := .later }
def DistOrdersUptoCardSaid : Prop := Claim7.holds Tryd.pinned (.plain (OpenSpec.upto distOrdersSpec)) distOrdersUptoCard

/-- THE SECOND FORM's CARD OF 'ringroadlaw01.DistBack'. -/
def distBackUptoCard : Claim7 := { stood := { row := distBackUptoRow, standIns := [], harness := (true, "4137fd9fe0bfb5c575b44c3da08dc6f148ca9e6ea84fa4a95b6895defa548a9f"), looks := true }, kinds := [], alts := [], laidByText := true, laidKinds := [.data, .data, .data, .sentinel, .sentinel], laidTests := true, laidLooks := .later }
def DistBackUptoCardSaid : Prop := Claim7.holds Tryd.pinned (.plain (OpenSpec.upto distBackSpec)) distBackUptoCard
end Rows
end Go.Proofs.YthflnhnhdgegdaaDoor

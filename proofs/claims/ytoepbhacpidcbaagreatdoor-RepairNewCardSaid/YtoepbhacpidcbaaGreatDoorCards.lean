/-
  DERIVED. GIVEN WITH THE SEED: THE CARDS: each row of YtoepbhacpidcbaaGreatDoorRows.lean that lists a variable, with what it lists TIED to the program's text (the seventh form; the later family's looks); each row that meets fmt, with fmt's text TOLD by the authors' own Lean function (tested against real Go, not proved from fmt's source: count such statements apart). THE CARD IS WHAT COUNTS. Prove the row's statement (the work); the ties are given (YtoepbhacpidcbaaGreatDoorTie.lean); close each card by the builder's one call (the guide's Derived/Test/ToyasCard.lean, 'card_holds'). Laid BY PROGRAM, IN A SANDBOX (cutbox-door.mjs). By AI agents, Wed Nov 11 2026. No macro, syntax, notation, axiom, sorry.
-/
import Derived.Test.YtoepbhacpidcbaaGreatDoorRows
import GoSem.ClaimSeven
namespace Go.Proofs.YtoepbhacpidcbaaGreatDoor
namespace Rows

/-- THE TIED CARD OF 'ringroadlaw22.BypassTells'. -/
def bypassTellsCard : Claim7 := { stood := { row := bypassTellsRow, standIns := [], harness := (true, "a9beb64b134922f01f6d65c4a9ba694c4f5949d21371e5dc9f34bc6b0949e427"), looks := true }, kinds := [], alts := [], laidByText := true, laidKinds := [.data], laidTests := true, laidLooks := .later }
def BypassTellsCardSaid : Prop := Claim7.holds Tryz.pinned (.plain (OpenSpec.ofChange bypassTellsSpec)) bypassTellsCard

/-- THE TIED CARD OF 'ringroadlaw22.BypassGround'. -/
def bypassGroundCard : Claim7 := { stood := { row := bypassGroundRow, standIns := [], harness := (true, "a9beb64b134922f01f6d65c4a9ba694c4f5949d21371e5dc9f34bc6b0949e427"), looks := true }, kinds := [], alts := [], laidByText := true, laidKinds := [.data], laidTests := true, laidLooks := .later }
def BypassGroundCardSaid : Prop := Claim7.holds Tryz.pinned (.plain (OpenSpec.ofChange bypassGroundSpec)) bypassGroundCard

/-- THE TIED CARD OF 'ringroadlaw19.RepairPlays'. -/
def repairPlaysCard : Claim7 := { stood := { row := repairPlaysRow, standIns := [], harness := (true, "a9beb64b134922f01f6d65c4a9ba694c4f5949d21371e5dc9f34bc6b0949e427"), looks := true }, kinds := [], alts := [], laidByText := true, laidKinds := [.data, .data], laidTests := true, laidLooks := .later }
def RepairPlaysCardSaid : Prop := Claim7.holds Tryz.pinned (.plain (OpenSpec.ofChange repairPlaysSpec)) repairPlaysCard

/-- THE TIED CARD OF 'ringroadlaw19.RepairRight'. -/
def repairRightCard : Claim7 := { stood := { row := repairRightRow, standIns := [], harness := (true, "a9beb64b134922f01f6d65c4a9ba694c4f5949d21371e5dc9f34bc6b0949e427"), looks := true }, kinds := [], alts := [], laidByText := true, laidKinds := [.data, .data], laidTests := true, laidLooks := .later }
def RepairRightCardSaid : Prop := Claim7.holds Tryz.pinned (.plain (OpenSpec.ofChange repairRightSpec)) repairRightCard

/-- THE TIED CARD OF 'ringroadlaw19.RepairDrains'. -/
def repairDrainsCard : Claim7 := { stood := { row := repairDrainsRow, standIns := [], harness := (true, "a9beb64b134922f01f6d65c4a9ba694c4f5949d21371e5dc9f34bc6b0949e427"), looks := true }, kinds := [], alts := [], laidByText := true, laidKinds := [.data, .data], laidTests := true, laidLooks := .later }
def RepairDrainsCardSaid : Prop := Claim7.holds Tryz.pinned (.plain (OpenSpec.ofChange repairDrainsSpec)) repairDrainsCard

/-- THE TIED CARD OF 'ringroadlaw19.RepairBudgets'. -/
def repairBudgetsCard : Claim7 := { stood := { row := repairBudgetsRow, standIns := [], harness := (true, "a9beb64b134922f01f6d65c4a9ba694c4f5949d21371e5dc9f34bc6b0949e427"), looks := true }, kinds := [], alts := [], laidByText := true, laidKinds := [.data, .data], laidTests := true, laidLooks := .later }
def RepairBudgetsCardSaid : Prop := Claim7.holds Tryz.pinned (.plain (OpenSpec.ofChange repairBudgetsSpec)) repairBudgetsCard

/-- THE TIED CARD OF 'ringroadlaw19.RepairBack'. -/
def repairBackCard : Claim7 := { stood := { row := repairBackRow, standIns := [], harness := (true, "a9beb64b134922f01f6d65c4a9ba694c4f5949d21371e5dc9f34bc6b0949e427"), looks := true }, kinds := [], alts := [], laidByText := true, laidKinds := [.data, .data], laidTests := true, laidLooks := .later }
def RepairBackCardSaid : Prop := Claim7.holds Tryz.pinned (.plain (OpenSpec.ofChange repairBackSpec)) repairBackCard

/-- THE TIED CARD OF 'ringroadlaw19.RepairNew'. -/
def repairNewCard : Claim7 := { stood := { row := repairNewRow, standIns := [], harness := (true, "a9beb64b134922f01f6d65c4a9ba694c4f5949d21371e5dc9f34bc6b0949e427"), looks := true }, kinds := [], alts := [], laidByText := true, laidKinds := [.data, .data], laidTests := true, laidLooks := .later }
def RepairNewCardSaid : Prop := Claim7.holds Tryz.pinned (.plain (OpenSpec.ofChange repairNewSpec)) repairNewCard

/-- THE TIED CARD OF 'ringroadlaw22.BypassExact'. -/
def bypassExactCard : Claim7 := { stood := { row := bypassExactRow, standIns := [], harness := (true, "a9beb64b134922f01f6d65c4a9ba694c4f5949d21371e5dc9f34bc6b0949e427"), looks := true }, kinds := [], alts := [], laidByText := true, laidKinds := [.data], laidTests := true, laidLooks := .later }
def BypassExactCardSaid : Prop := Claim7.holds Tryz.pinned (.plain (OpenSpec.ofChange bypassExactSpec)) bypassExactCard

/-- THE TIED CARD OF 'ringroadlaw22.BypassPaths'. -/
def bypassPathsCard : Claim7 := { stood := { row := bypassPathsRow, standIns := [], harness := (true, "a9beb64b134922f01f6d65c4a9ba694c4f5949d21371e5dc9f34bc6b0949e427"), looks := true }, kinds := [], alts := [], laidByText := true, laidKinds := [.data], laidTests := true, laidLooks := .later }
def BypassPathsCardSaid : Prop := Claim7.holds Tryz.pinned (.plain (OpenSpec.ofChange bypassPathsSpec)) bypassPathsCard

/-- THE TIED CARD OF 'ringroadlaw22.BypassFloors'. -/
def bypassFloorsCard : Claim7 := { stood := { row := bypassFloorsRow, standIns := [], harness := (true, "a9beb64b134922f01f6d65c4a9ba694c4f5949d21371e5dc9f34bc6b0949e427"), looks := true }, kinds := [], alts := [], laidByText := true, laidKinds := [.data], laidTests := true, laidLooks := .later }
def BypassFloorsCardSaid : Prop := Claim7.holds Tryz.pinned (.plain (OpenSpec.ofChange bypassFloorsSpec)) bypassFloorsCard

/-- THE SECOND FORM's CARD OF 'ringroadlaw22.BypassTells'. -/
def bypassTellsUptoCard : Claim7 := { stood := { row := bypassTellsUptoRow, standIns := [], harness := (true, "a9beb64b134922f01f6d65c4a9ba694c4f5949d21371e5dc9f34bc6b0949e427"), looks := true }, kinds := [], alts := [], laidByText := true, laidKinds := [.data], laidTests := true, laidLooks := .later }
def BypassTellsUptoCardSaid : Prop := Claim7.holds Tryz.pinned (.plain (OpenSpec.upto bypassTellsSpec)) bypassTellsUptoCard

/-- THE SECOND FORM's CARD OF 'ringroadlaw22.BypassGround'. -/
def bypassGroundUptoCard : Claim7 := { stood := { row := bypassGroundUptoRow, standIns := [], harness := (true, "a9beb64b134922f01f6d65c4a9ba694c4f5949d21371e5dc9f34bc6b0949e427"), looks := true }, kinds := [], alts := [], laidByText := true, laidKinds := [.data], laidTests := true, laidLooks := .later }
def BypassGroundUptoCardSaid : Prop := Claim7.holds Tryz.pinned (.plain (OpenSpec.upto bypassGroundSpec)) bypassGroundUptoCard

/-- THE SECOND FORM's CARD OF 'ringroadlaw19.RepairPlays'. -/
def repairPlaysUptoCard : Claim7 := { stood := { row := repairPlaysUptoRow, standIns := [], harness := (true, "a9beb64b134922f01f6d65c4a9ba694c4f5949d21371e5dc9f34bc6b0949e427"), looks := true }, kinds := [], alts := [], laidByText := true, laidKinds := [.data, .data], laidTests := true, laidLooks := .later }
def RepairPlaysUptoCardSaid : Prop := Claim7.holds Tryz.pinned (.plain (OpenSpec.upto repairPlaysSpec)) repairPlaysUptoCard

/-- THE SECOND FORM's CARD OF 'ringroadlaw19.RepairRight'. -/
def repairRightUptoCard : Claim7 := { stood := { row := repairRightUptoRow, standIns := [], harness := (true, "a9beb64b134922f01f6d65c4a9ba694c4f5949d21371e5dc9f34bc6b0949e427"), looks := true }, kinds := [], alts := [], laidByText := true, laidKinds := [.data, .data], laidTests := true, laidLooks := .later }
def RepairRightUptoCardSaid : Prop := Claim7.holds Tryz.pinned (.plain (OpenSpec.upto repairRightSpec)) repairRightUptoCard

/-- THE SECOND FORM's CARD OF 'ringroadlaw19.RepairDrains'. -/
def repairDrainsUptoCard : Claim7 := { stood := { row := repairDrainsUptoRow, standIns := [], harness := (true, "a9beb64b134922f01f6d65c4a9ba694c4f5949d21371e5dc9f34bc6b0949e427"), looks := true }, kinds := [], alts := [], laidByText := true, laidKinds := [.data, .data], laidTests := true, laidLooks := .later }
def RepairDrainsUptoCardSaid : Prop := Claim7.holds Tryz.pinned (.plain (OpenSpec.upto repairDrainsSpec)) repairDrainsUptoCard

/-- THE SECOND FORM's CARD OF 'ringroadlaw19.RepairBudgets'. -/
def repairBudgetsUptoCard : Claim7 := { stood := { row := repairBudgetsUptoRow, standIns := [], harness := (true, "a9beb64b134922f01f6d65c4a9ba694c4f5949d21371e5dc9f34bc6b0949e427"), looks := true }, kinds := [], alts := [], laidByText := true, laidKinds := [.data, .data], laidTests := true, laidLooks := .later }
def RepairBudgetsUptoCardSaid : Prop := Claim7.holds Tryz.pinned (.plain (OpenSpec.upto repairBudgetsSpec)) repairBudgetsUptoCard

/-- THE SECOND FORM's CARD OF 'ringroadlaw19.RepairBack'. -/
def repairBackUptoCard : Claim7 := { stood := { row := repairBackUptoRow, standIns := [], harness := (true, "a9beb64b134922f01f6d65c4a9ba694c4f5949d21371e5dc9f34bc6b0949e427"), looks := true }, kinds := [], alts := [], laidByText := true, laidKinds := [.data, .data], laidTests := true, laidLooks := .later }
def RepairBackUptoCardSaid : Prop := Claim7.holds Tryz.pinned (.plain (OpenSpec.upto repairBackSpec)) repairBackUptoCard

/-- THE SECOND FORM's CARD OF 'ringroadlaw19.RepairNew'. -/
def repairNewUptoCard : Claim7 := { stood := { row := repairNewUptoRow, standIns := [], harness := (true, "a9beb64b134922f01f6d65c4a9ba694c4f5949d21371e5dc9f34bc6b0949e427"), looks := true }, kinds := [], alts := [], laidByText := true, laidKinds := [.data, .data], laidTests := true, laidLooks := .later }
def RepairNewUptoCardSaid : Prop := Claim7.holds Tryz.pinned (.plain (OpenSpec.upto repairNewSpec)) repairNewUptoCard

/-- THE SECOND FORM's CARD OF 'ringroadlaw22.BypassExact'. -/
def bypassExactUptoCard : Claim7 := { stood := { row := bypassExactUptoRow, standIns := [], harness := (true, "a9beb64b134922f01f6d65c4a9ba694c4f5949d21371e5dc9f34bc6b0949e427"), looks := true }, kinds := [], alts := [], laidByText := true, laidKinds := [.data], laidTests := true, laidLooks := .later }
def BypassExactUptoCardSaid : Prop := Claim7.holds Tryz.pinned (.plain (OpenSpec.upto bypassExactSpec)) bypassExactUptoCard

/-- THE SECOND FORM's CARD OF 'ringroadlaw22.BypassPaths'. -/
def bypassPathsUptoCard : Claim7 := { stood := { row := bypassPathsUptoRow, standIns := [], harness := (true, "a9beb64b134922f01f6d65c4a9ba694c4f5949d21371e5dc9f34bc6b0949e427"), looks := true }, kinds := [], alts := [], laidByText := true, laidKinds := [.data], laidTests := true, laidLooks := .later }
def BypassPathsUptoCardSaid : Prop := Claim7.holds Tryz.pinned (.plain (OpenSpec.upto bypassPathsSpec)) bypassPathsUptoCard

/-- THE SECOND FORM's CARD OF 'ringroadlaw22.BypassFloors'. -/
def bypassFloorsUptoCard : Claim7 := { stood := { row := bypassFloorsUptoRow, standIns := [], harness := (true, "a9beb64b134922f01f6d65c4a9ba694c4f5949d21371e5dc9f34bc6b0949e427"), looks := true }, kinds := [], alts := [], laidByText := true, laidKinds := [.data], laidTests := true, laidLooks := .later }
def BypassFloorsUptoCardSaid : Prop := Claim7.holds Tryz.pinned (.plain (OpenSpec.upto bypassFloorsSpec)) bypassFloorsUptoCard
end Rows
end Go.Proofs.YtoepbhacpidcbaaGreatDoor

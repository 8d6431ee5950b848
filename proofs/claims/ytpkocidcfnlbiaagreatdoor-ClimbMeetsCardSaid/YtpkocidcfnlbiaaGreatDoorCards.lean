/-
  DERIVED. GIVEN WITH THE SEED: THE CARDS: each row of YtpkocidcfnlbiaaGreatDoorRows.lean that lists a variable, with what it lists TIED to the program's text (the seventh form; the later family's looks); each row that meets fmt, with fmt's text TOLD by the authors' own Lean function (tested against real Go, not proved from fmt's source: count such statements apart). THE CARD IS WHAT COUNTS. Prove the row's statement (the work); the ties are given (YtpkocidcfnlbiaaGreatDoorTie.lean); close each card by the builder's one call (the guide's Derived/Test/ToyasCard.lean, 'card_holds'). Laid BY PROGRAM, IN A SANDBOX (cutbox-door.mjs). By AI agents, Wed Nov 11 2026. No macro, syntax, notation, axiom, sorry.
-/
import Derived.Test.YtpkocidcfnlbiaaGreatDoorRows
import GoSem.ClaimSeven
namespace Go.Proofs.YtpkocidcfnlbiaaGreatDoor
namespace Rows

/-- THE TIED CARD OF 'ringroadlaw16.BuildTells'. -/
def buildTellsCard : Claim7 := { stood := { row := buildTellsRow, standIns := [], harness := (true, "7b807cf781acc114388b96ee2ca5e5921ea1bb67772ffb4c82c9b2a15ab5647a"), looks := true }, kinds := [], alts := [], laidByText := true, laidKinds := [.data], laidTests := true, laidLooks := .later }
def BuildTellsCardSaid : Prop := Claim7.holds Tryz.pinned (.plain (OpenSpec.ofChange buildTellsSpec)) buildTellsCard

/-- THE TIED CARD OF 'ringroadlaw16.BuildUps'. -/
def buildUpsCard : Claim7 := { stood := { row := buildUpsRow, standIns := [], harness := (true, "7b807cf781acc114388b96ee2ca5e5921ea1bb67772ffb4c82c9b2a15ab5647a"), looks := true }, kinds := [], alts := [], laidByText := true, laidKinds := [.data], laidTests := true, laidLooks := .later }
def BuildUpsCardSaid : Prop := Claim7.holds Tryz.pinned (.plain (OpenSpec.ofChange buildUpsSpec)) buildUpsCard

/-- THE TIED CARD OF 'ringroadlaw20.ClimbDists'. -/
def climbDistsCard : Claim7 := { stood := { row := climbDistsRow, standIns := [], harness := (true, "7b807cf781acc114388b96ee2ca5e5921ea1bb67772ffb4c82c9b2a15ab5647a"), looks := true }, kinds := [], alts := [], laidByText := true, laidKinds := [.data], laidTests := true, laidLooks := .later }
def ClimbDistsCardSaid : Prop := Claim7.holds Tryz.pinned (.plain (OpenSpec.ofChange climbDistsSpec)) climbDistsCard

/-- THE TIED CARD OF 'ringroadlaw20.ClimbOrders'. -/
def climbOrdersCard : Claim7 := { stood := { row := climbOrdersRow, standIns := [], harness := (true, "7b807cf781acc114388b96ee2ca5e5921ea1bb67772ffb4c82c9b2a15ab5647a"), looks := true }, kinds := [], alts := [], laidByText := true, laidKinds := [.data], laidTests := true, laidLooks := .later }
def ClimbOrdersCardSaid : Prop := Claim7.holds Tryz.pinned (.plain (OpenSpec.ofChange climbOrdersSpec)) climbOrdersCard

/-- THE TIED CARD OF 'ringroadlaw20.ClimbEdges'. -/
def climbEdgesCard : Claim7 := { stood := { row := climbEdgesRow, standIns := [], harness := (true, "7b807cf781acc114388b96ee2ca5e5921ea1bb67772ffb4c82c9b2a15ab5647a"), looks := true }, kinds := [], alts := [], laidByText := true, laidKinds := [.data], laidTests := true, laidLooks := .later }
def ClimbEdgesCardSaid : Prop := Claim7.holds Tryz.pinned (.plain (OpenSpec.ofChange climbEdgesSpec)) climbEdgesCard

/-- THE TIED CARD OF 'ringroadlaw20.ClimbMeets'. -/
def climbMeetsCard : Claim7 := { stood := { row := climbMeetsRow, standIns := [], harness := (true, "7b807cf781acc114388b96ee2ca5e5921ea1bb67772ffb4c82c9b2a15ab5647a"), looks := true }, kinds := [], alts := [], laidByText := true, laidKinds := [.data], laidTests := true, laidLooks := .later }
def ClimbMeetsCardSaid : Prop := Claim7.holds Tryz.pinned (.plain (OpenSpec.ofChange climbMeetsSpec)) climbMeetsCard

/-- THE TIED CARD OF 'ringroadlaw22.BypassTells'. -/
def bypassTellsCard : Claim7 := { stood := { row := bypassTellsRow, standIns := [], harness := (true, "7b807cf781acc114388b96ee2ca5e5921ea1bb67772ffb4c82c9b2a15ab5647a"), looks := true }, kinds := [], alts := [], laidByText := true, laidKinds := [.data], laidTests := true, laidLooks := .later }
def BypassTellsCardSaid : Prop := Claim7.holds Tryz.pinned (.plain (OpenSpec.ofChange bypassTellsSpec)) bypassTellsCard

/-- THE TIED CARD OF 'ringroadlaw22.BypassGround'. -/
def bypassGroundCard : Claim7 := { stood := { row := bypassGroundRow, standIns := [], harness := (true, "7b807cf781acc114388b96ee2ca5e5921ea1bb67772ffb4c82c9b2a15ab5647a"), looks := true }, kinds := [], alts := [], laidByText := true, laidKinds := [.data], laidTests := true, laidLooks := .later }
def BypassGroundCardSaid : Prop := Claim7.holds Tryz.pinned (.plain (OpenSpec.ofChange bypassGroundSpec)) bypassGroundCard

/-- THE TIED CARD OF 'ringroadlaw22.BypassExact'. -/
def bypassExactCard : Claim7 := { stood := { row := bypassExactRow, standIns := [], harness := (true, "7b807cf781acc114388b96ee2ca5e5921ea1bb67772ffb4c82c9b2a15ab5647a"), looks := true }, kinds := [], alts := [], laidByText := true, laidKinds := [.data], laidTests := true, laidLooks := .later }
def BypassExactCardSaid : Prop := Claim7.holds Tryz.pinned (.plain (OpenSpec.ofChange bypassExactSpec)) bypassExactCard

/-- THE TIED CARD OF 'ringroadlaw22.BypassPaths'. -/
def bypassPathsCard : Claim7 := { stood := { row := bypassPathsRow, standIns := [], harness := (true, "7b807cf781acc114388b96ee2ca5e5921ea1bb67772ffb4c82c9b2a15ab5647a"), looks := true }, kinds := [], alts := [], laidByText := true, laidKinds := [.data], laidTests := true, laidLooks := .later }
def BypassPathsCardSaid : Prop := Claim7.holds Tryz.pinned (.plain (OpenSpec.ofChange bypassPathsSpec)) bypassPathsCard

/-- THE TIED CARD OF 'ringroadlaw22.BypassFloors'. -/
def bypassFloorsCard : Claim7 := { stood := { row := bypassFloorsRow, standIns := [], harness := (true, "7b807cf781acc114388b96ee2ca5e5921ea1bb67772ffb4c82c9b2a15ab5647a"), looks := true }, kinds := [], alts := [], laidByText := true, laidKinds := [.data], laidTests := true, laidLooks := .later }
def BypassFloorsCardSaid : Prop := Claim7.holds Tryz.pinned (.plain (OpenSpec.ofChange bypassFloorsSpec)) bypassFloorsCard

/-- THE SECOND FORM's CARD OF 'ringroadlaw16.BuildTells'. -/
def buildTellsUptoCard : Claim7 := { stood := { row := buildTellsUptoRow, standIns := [], harness := (true, "7b807cf781acc114388b96ee2ca5e5921ea1bb67772ffb4c82c9b2a15ab5647a"), looks := true }, kinds := [], alts := [], laidByText := true, laidKinds := [.data], laidTests := true, laidLooks := .later }
def BuildTellsUptoCardSaid : Prop := Claim7.holds Tryz.pinned (.plain (OpenSpec.upto buildTellsSpec)) buildTellsUptoCard

/-- THE SECOND FORM's CARD OF 'ringroadlaw16.BuildUps'. -/
def buildUpsUptoCard : Claim7 := { stood := { row := buildUpsUptoRow, standIns := [], harness := (true, "7b807cf781acc114388b96ee2ca5e5921ea1bb67772ffb4c82c9b2a15ab5647a"), looks := true }, kinds := [], alts := [], laidByText := true, laidKinds := [.data], laidTests := true, laidLooks := .later }
def BuildUpsUptoCardSaid : Prop := Claim7.holds Tryz.pinned (.plain (OpenSpec.upto buildUpsSpec)) buildUpsUptoCard

/-- THE SECOND FORM's CARD OF 'ringroadlaw20.ClimbDists'. -/
def climbDistsUptoCard : Claim7 := { stood := { row := climbDistsUptoRow, standIns := [], harness := (true, "7b807cf781acc114388b96ee2ca5e5921ea1bb67772ffb4c82c9b2a15ab5647a"), looks := true }, kinds := [], alts := [], laidByText := true, laidKinds := [.data], laidTests := true, laidLooks := .later }
def ClimbDistsUptoCardSaid : Prop := Claim7.holds Tryz.pinned (.plain (OpenSpec.upto climbDistsSpec)) climbDistsUptoCard

/-- THE SECOND FORM's CARD OF 'ringroadlaw20.ClimbOrders'. -/
def climbOrdersUptoCard : Claim7 := { stood := { row := climbOrdersUptoRow, standIns := [], harness := (true, "7b807cf781acc114388b96ee2ca5e5921ea1bb67772ffb4c82c9b2a15ab5647a"), looks := true }, kinds := [], alts := [], laidByText := true, laidKinds := [.data], laidTests := true, laidLooks := .later }
def ClimbOrdersUptoCardSaid : Prop := Claim7.holds Tryz.pinned (.plain (OpenSpec.upto climbOrdersSpec)) climbOrdersUptoCard

/-- THE SECOND FORM's CARD OF 'ringroadlaw20.ClimbEdges'. -/
def climbEdgesUptoCard : Claim7 := { stood := { row := climbEdgesUptoRow, standIns := [], harness := (true, "7b807cf781acc114388b96ee2ca5e5921ea1bb67772ffb4c82c9b2a15ab5647a"), looks := true }, kinds := [], alts := [], laidByText := true, laidKinds := [.data], laidTests := true, laidLooks := .later }
def ClimbEdgesUptoCardSaid : Prop := Claim7.holds Tryz.pinned (.plain (OpenSpec.upto climbEdgesSpec)) climbEdgesUptoCard

/-- THE SECOND FORM's CARD OF 'ringroadlaw20.ClimbMeets'. -/
def climbMeetsUptoCard : Claim7 := { stood := { row := climbMeetsUptoRow, standIns := [], harness := (true, "7b807cf781acc114388b96ee2ca5e5921ea1bb67772ffb4c82c9b2a15ab5647a"), looks := true }, kinds := [], alts := [], laidByText := true, laidKinds := [.data], laidTests := true, laidLooks := .later }
def ClimbMeetsUptoCardSaid : Prop := Claim7.holds Tryz.pinned (.plain (OpenSpec.upto climbMeetsSpec)) climbMeetsUptoCard

/-- THE SECOND FORM's CARD OF 'ringroadlaw22.BypassTells'. -/
def bypassTellsUptoCard : Claim7 := { stood := { row := bypassTellsUptoRow, standIns := [], harness := (true, "7b807cf781acc114388b96ee2ca5e5921ea1bb67772ffb4c82c9b2a15ab5647a"), looks := true }, kinds := [], alts := [], laidByText := true, laidKinds := [.data], laidTests := true, laidLooks := .later }
def BypassTellsUptoCardSaid : Prop := Claim7.holds Tryz.pinned (.plain (OpenSpec.upto bypassTellsSpec)) bypassTellsUptoCard

/-- THE SECOND FORM's CARD OF 'ringroadlaw22.BypassGround'. -/
def bypassGroundUptoCard : Claim7 := { stood := { row := bypassGroundUptoRow, standIns := [], harness := (true, "7b807cf781acc114388b96ee2ca5e5921ea1bb67772ffb4c82c9b2a15ab5647a"), looks := true }, kinds := [], alts := [], laidByText := true, laidKinds := [.data], laidTests := true, laidLooks := .later }
def BypassGroundUptoCardSaid : Prop := Claim7.holds Tryz.pinned (.plain (OpenSpec.upto bypassGroundSpec)) bypassGroundUptoCard

/-- THE SECOND FORM's CARD OF 'ringroadlaw22.BypassExact'. -/
def bypassExactUptoCard : Claim7 := { stood := { row := bypassExactUptoRow, standIns := [], harness := (true, "7b807cf781acc114388b96ee2ca5e5921ea1bb67772ffb4c82c9b2a15ab5647a"), looks := true }, kinds := [], alts := [], laidByText := true, laidKinds := [.data], laidTests := true, laidLooks := .later }
def BypassExactUptoCardSaid : Prop := Claim7.holds Tryz.pinned (.plain (OpenSpec.upto bypassExactSpec)) bypassExactUptoCard

/-- THE SECOND FORM's CARD OF 'ringroadlaw22.BypassPaths'. -/
def bypassPathsUptoCard : Claim7 := { stood := { row := bypassPathsUptoRow, standIns := [], harness := (true, "7b807cf781acc114388b96ee2ca5e5921ea1bb67772ffb4c82c9b2a15ab5647a"), looks := true }, kinds := [], alts := [], laidByText := true, laidKinds := [.data], laidTests := true, laidLooks := .later }
def BypassPathsUptoCardSaid : Prop := Claim7.holds Tryz.pinned (.plain (OpenSpec.upto bypassPathsSpec)) bypassPathsUptoCard

/-- THE SECOND FORM's CARD OF 'ringroadlaw22.BypassFloors'. -/
def bypassFloorsUptoCard : Claim7 := { stood := { row := bypassFloorsUptoRow, standIns := [], harness := (true, "7b807cf781acc114388b96ee2ca5e5921ea1bb67772ffb4c82c9b2a15ab5647a"), looks := true }, kinds := [], alts := [], laidByText := true, laidKinds := [.data], laidTests := true, laidLooks := .later }
def BypassFloorsUptoCardSaid : Prop := Claim7.holds Tryz.pinned (.plain (OpenSpec.upto bypassFloorsSpec)) bypassFloorsUptoCard
end Rows
end Go.Proofs.YtpkocidcfnlbiaaGreatDoor

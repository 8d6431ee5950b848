/-
  DERIVED. GIVEN WITH THE SEED: THE CARDS: each row of YthnmomiglgomfaaGreatDoorRows.lean that lists a variable, with what it lists TIED to the program's text (the seventh form; the later family's looks); each row that meets fmt, with fmt's text TOLD by the authors' own Lean function (tested against real Go, not proved from fmt's source: count such statements apart). THE CARD IS WHAT COUNTS. Prove the row's statement (the work); the ties are given (YthnmomiglgomfaaGreatDoorTie.lean); close each card by the builder's one call (the guide's Derived/Test/ToyasCard.lean, 'card_holds'). Laid BY PROGRAM, IN A SANDBOX (cutbox-door.mjs). By AI agents, Wed Nov 11 2026. No macro, syntax, notation, axiom, sorry.
-/
import Derived.Test.YthnmomiglgomfaaGreatDoorRows
import GoSem.ClaimSeven
namespace Go.Proofs.YthnmomiglgomfaaGreatDoor
namespace Rows

/-- THE TIED CARD OF 'ringroadlaw20.ClimbDists'. -/
def climbDistsCard : Claim7 := { stood := { row := climbDistsRow, standIns := [], harness := (true, "86a5172d777c29dc466f7ceb65185e05ec83a15b1eb8dd02c24789d1ff9ef469"), looks := false }, kinds := [], alts := [], laidByText := true, laidKinds := [.data], laidTests := true, laidLooks := .later }
def ClimbDistsCardSaid : Prop := Claim7.holds Tryz.pinned (.plain (OpenSpec.ofChange climbDistsSpec)) climbDistsCard

/-- THE TIED CARD OF 'ringroadlaw20.ClimbOrders'. -/
def climbOrdersCard : Claim7 := { stood := { row := climbOrdersRow, standIns := [], harness := (true, "86a5172d777c29dc466f7ceb65185e05ec83a15b1eb8dd02c24789d1ff9ef469"), looks := false }, kinds := [], alts := [], laidByText := true, laidKinds := [.data], laidTests := true, laidLooks := .later }
def ClimbOrdersCardSaid : Prop := Claim7.holds Tryz.pinned (.plain (OpenSpec.ofChange climbOrdersSpec)) climbOrdersCard

/-- THE TIED CARD OF 'ringroadlaw20.ClimbEdges'. -/
def climbEdgesCard : Claim7 := { stood := { row := climbEdgesRow, standIns := [], harness := (true, "86a5172d777c29dc466f7ceb65185e05ec83a15b1eb8dd02c24789d1ff9ef469"), looks := false }, kinds := [], alts := [], laidByText := true, laidKinds := [.data], laidTests := true, laidLooks := .later }
def ClimbEdgesCardSaid : Prop := Claim7.holds Tryz.pinned (.plain (OpenSpec.ofChange climbEdgesSpec)) climbEdgesCard

/-- THE TIED CARD OF 'ringroadlaw20.ClimbMeets'. -/
def climbMeetsCard : Claim7 := { stood := { row := climbMeetsRow, standIns := [], harness := (true, "86a5172d777c29dc466f7ceb65185e05ec83a15b1eb8dd02c24789d1ff9ef469"), looks := false }, kinds := [], alts := [], laidByText := true, laidKinds := [.data], laidTests := true, laidLooks := .later }
def ClimbMeetsCardSaid : Prop := Claim7.holds Tryz.pinned (.plain (OpenSpec.ofChange climbMeetsSpec)) climbMeetsCard

/-- THE TIED CARD OF 'ringroadlaw16.BuildBetween'. -/
def buildBetweenCard : Claim7 := { stood := { row := buildBetweenRow, standIns := [], harness := (true, "86a5172d777c29dc466f7ceb65185e05ec83a15b1eb8dd02c24789d1ff9ef469"), looks := false }, kinds := [], alts := [], laidByText := true, laidKinds := [.data], laidTests := true, laidLooks := .later }
def BuildBetweenCardSaid : Prop := Claim7.holds Tryz.pinned (.plain (OpenSpec.ofChange buildBetweenSpec)) buildBetweenCard

/-- THE TIED CARD OF 'ringroadlaw16.BuildSets'. -/
def buildSetsCard : Claim7 := { stood := { row := buildSetsRow, standIns := [], harness := (true, "86a5172d777c29dc466f7ceb65185e05ec83a15b1eb8dd02c24789d1ff9ef469"), looks := false }, kinds := [], alts := [], laidByText := true, laidKinds := [.data], laidTests := true, laidLooks := .later }
def BuildSetsCardSaid : Prop := Claim7.holds Tryz.pinned (.plain (OpenSpec.ofChange buildSetsSpec)) buildSetsCard

/-- THE TIED CARD OF 'ringroadlaw16.BuildUps'. -/
def buildUpsCard : Claim7 := { stood := { row := buildUpsRow, standIns := [], harness := (true, "86a5172d777c29dc466f7ceb65185e05ec83a15b1eb8dd02c24789d1ff9ef469"), looks := false }, kinds := [], alts := [], laidByText := true, laidKinds := [.data], laidTests := true, laidLooks := .later }
def BuildUpsCardSaid : Prop := Claim7.holds Tryz.pinned (.plain (OpenSpec.ofChange buildUpsSpec)) buildUpsCard

/-- THE TIED CARD OF 'ringroadlaw16.BuildWhole'. -/
def buildWholeCard : Claim7 := { stood := { row := buildWholeRow, standIns := [], harness := (true, "86a5172d777c29dc466f7ceb65185e05ec83a15b1eb8dd02c24789d1ff9ef469"), looks := false }, kinds := [], alts := [], laidByText := true, laidKinds := [.data], laidTests := true, laidLooks := .later }
def BuildWholeCardSaid : Prop := Claim7.holds Tryz.pinned (.plain (OpenSpec.ofChange buildWholeSpec)) buildWholeCard

/-- THE TIED CARD OF 'ringroadlaw16.BuildMiddles'. -/
def buildMiddlesCard : Claim7 := { stood := { row := buildMiddlesRow, standIns := [], harness := (true, "86a5172d777c29dc466f7ceb65185e05ec83a15b1eb8dd02c24789d1ff9ef469"), looks := false }, kinds := [], alts := [], laidByText := true, laidKinds := [.data], laidTests := true, laidLooks := .later }
def BuildMiddlesCardSaid : Prop := Claim7.holds Tryz.pinned (.plain (OpenSpec.ofChange buildMiddlesSpec)) buildMiddlesCard

/-- THE TIED CARD OF 'ringroadlaw16.BuildTells'. -/
def buildTellsCard : Claim7 := { stood := { row := buildTellsRow, standIns := [], harness := (true, "86a5172d777c29dc466f7ceb65185e05ec83a15b1eb8dd02c24789d1ff9ef469"), looks := false }, kinds := [], alts := [], laidByText := true, laidKinds := [.data], laidTests := true, laidLooks := .later }
def BuildTellsCardSaid : Prop := Claim7.holds Tryz.pinned (.plain (OpenSpec.ofChange buildTellsSpec)) buildTellsCard

/-- THE TIED CARD OF 'ringroadlaw16.BuildCloses'. -/
def buildClosesCard : Claim7 := { stood := { row := buildClosesRow, standIns := [], harness := (true, "86a5172d777c29dc466f7ceb65185e05ec83a15b1eb8dd02c24789d1ff9ef469"), looks := false }, kinds := [], alts := [], laidByText := true, laidKinds := [.data], laidTests := true, laidLooks := .later }
def BuildClosesCardSaid : Prop := Claim7.holds Tryz.pinned (.plain (OpenSpec.ofChange buildClosesSpec)) buildClosesCard

/-- THE SECOND FORM's CARD OF 'ringroadlaw20.ClimbDists'. -/
def climbDistsUptoCard : Claim7 := { stood := { row := climbDistsUptoRow, standIns := [], harness := (true, "86a5172d777c29dc466f7ceb65185e05ec83a15b1eb8dd02c24789d1ff9ef469"), looks := false }, kinds := [], alts := [], laidByText := true, laidKinds := [.data], laidTests := true, laidLooks := .later }
def ClimbDistsUptoCardSaid : Prop := Claim7.holds Tryz.pinned (.plain (OpenSpec.upto climbDistsSpec)) climbDistsUptoCard

/-- THE SECOND FORM's CARD OF 'ringroadlaw20.ClimbOrders'. -/
def climbOrdersUptoCard : Claim7 := { stood := { row := climbOrdersUptoRow, standIns := [], harness := (true, "86a5172d777c29dc466f7ceb65185e05ec83a15b1eb8dd02c24789d1ff9ef469"), looks := false }, kinds := [], alts := [], laidByText := true, laidKinds := [.data], laidTests := true, laidLooks := .later }
def ClimbOrdersUptoCardSaid : Prop := Claim7.holds Tryz.pinned (.plain (OpenSpec.upto climbOrdersSpec)) climbOrdersUptoCard

/-- THE SECOND FORM's CARD OF 'ringroadlaw20.ClimbEdges'. -/
def climbEdgesUptoCard : Claim7 := { stood := { row := climbEdgesUptoRow, standIns := [], harness := (true, "86a5172d777c29dc466f7ceb65185e05ec83a15b1eb8dd02c24789d1ff9ef469"), looks := false }, kinds := [], alts := [], laidByText := true, laidKinds := [.data], laidTests := true, laidLooks := .later }
def ClimbEdgesUptoCardSaid : Prop := Claim7.holds Tryz.pinned (.plain (OpenSpec.upto climbEdgesSpec)) climbEdgesUptoCard

/-- THE SECOND FORM's CARD OF 'ringroadlaw20.ClimbMeets'. -/
def climbMeetsUptoCard : Claim7 := { stood := { row := climbMeetsUptoRow, standIns := [], harness := (true, "86a5172d777c29dc466f7ceb65185e05ec83a15b1eb8dd02c24789d1ff9ef469"), looks := false }, kinds := [], alts := [], laidByText := true, laidKinds := [.data], laidTests := true, laidLooks := .later }
def ClimbMeetsUptoCardSaid : Prop := Claim7.holds Tryz.pinned (.plain (OpenSpec.upto climbMeetsSpec)) climbMeetsUptoCard

/-- THE SECOND FORM's CARD OF 'ringroadlaw16.BuildBetween'. -/
def buildBetweenUptoCard : Claim7 := { stood := { row := buildBetweenUptoRow, standIns := [], harness := (true, "86a5172d777c29dc466f7ceb65185e05ec83a15b1eb8dd02c24789d1ff9ef469"), looks := false }, kinds := [], alts := [], laidByText := true, laidKinds := [.data], laidTests := true, laidLooks := .later }
def BuildBetweenUptoCardSaid : Prop := Claim7.holds Tryz.pinned (.plain (OpenSpec.upto buildBetweenSpec)) buildBetweenUptoCard

/-- THE SECOND FORM's CARD OF 'ringroadlaw16.BuildSets'. -/
def buildSetsUptoCard : Claim7 := { stood := { row := buildSetsUptoRow, standIns := [], harness := (true, "86a5172d777c29dc466f7ceb65185e05ec83a15b1eb8dd02c24789d1ff9ef469"), looks := false }, kinds := [], alts := [], laidByText := true, laidKinds := [.data], laidTests := true, laidLooks := .later }
def BuildSetsUptoCardSaid : Prop := Claim7.holds Tryz.pinned (.plain (OpenSpec.upto buildSetsSpec)) buildSetsUptoCard

/-- THE SECOND FORM's CARD OF 'ringroadlaw16.BuildUps'. -/
def buildUpsUptoCard : Claim7 := { stood := { row := buildUpsUptoRow, standIns := [], harness := (true, "86a5172d777c29dc466f7ceb65185e05ec83a15b1eb8dd02c24789d1ff9ef469"), looks := false }, kinds := [], alts := [], laidByText := true, laidKinds := [.data], laidTests := true, laidLooks := .later }
def BuildUpsUptoCardSaid : Prop := Claim7.holds Tryz.pinned (.plain (OpenSpec.upto buildUpsSpec)) buildUpsUptoCard

/-- THE SECOND FORM's CARD OF 'ringroadlaw16.BuildWhole'. -/
def buildWholeUptoCard : Claim7 := { stood := { row := buildWholeUptoRow, standIns := [], harness := (true, "86a5172d777c29dc466f7ceb65185e05ec83a15b1eb8dd02c24789d1ff9ef469"), looks := false }, kinds := [], alts := [], laidByText := true, laidKinds := [.data], laidTests := true, laidLooks := .later }
def BuildWholeUptoCardSaid : Prop := Claim7.holds Tryz.pinned (.plain (OpenSpec.upto buildWholeSpec)) buildWholeUptoCard

/-- THE SECOND FORM's CARD OF 'ringroadlaw16.BuildMiddles'. -/
def buildMiddlesUptoCard : Claim7 := { stood := { row := buildMiddlesUptoRow, standIns := [], harness := (true, "86a5172d777c29dc466f7ceb65185e05ec83a15b1eb8dd02c24789d1ff9ef469"), looks := false }, kinds := [], alts := [], laidByText := true, laidKinds := [.data], laidTests := true, laidLooks := .later }
def BuildMiddlesUptoCardSaid : Prop := Claim7.holds Tryz.pinned (.plain (OpenSpec.upto buildMiddlesSpec)) buildMiddlesUptoCard

/-- THE SECOND FORM's CARD OF 'ringroadlaw16.BuildTells'. -/
def buildTellsUptoCard : Claim7 := { stood := { row := buildTellsUptoRow, standIns := [], harness := (true, "86a5172d777c29dc466f7ceb65185e05ec83a15b1eb8dd02c24789d1ff9ef469"), looks := false }, kinds := [], alts := [], laidByText := true, laidKinds := [.data], laidTests := true, laidLooks := .later }
def BuildTellsUptoCardSaid : Prop := Claim7.holds Tryz.pinned (.plain (OpenSpec.upto buildTellsSpec)) buildTellsUptoCard

/-- THE SECOND FORM's CARD OF 'ringroadlaw16.BuildCloses'. -/
def buildClosesUptoCard : Claim7 := { stood := { row := buildClosesUptoRow, standIns := [], harness := (true, "86a5172d777c29dc466f7ceb65185e05ec83a15b1eb8dd02c24789d1ff9ef469"), looks := false }, kinds := [], alts := [], laidByText := true, laidKinds := [.data], laidTests := true, laidLooks := .later }
def BuildClosesUptoCardSaid : Prop := Claim7.holds Tryz.pinned (.plain (OpenSpec.upto buildClosesSpec)) buildClosesUptoCard
end Rows
end Go.Proofs.YthnmomiglgomfaaGreatDoor

/-
  DERIVED. GIVEN WITH THE SEED: THE CARDS: each row of YtlncmnphjdeeoaaDoorRows.lean that lists a variable, with what it lists TIED to the program's text (the seventh form; the later family's looks); each row that meets fmt, with fmt's text TOLD by the authors' own Lean function (tested against real Go, not proved from fmt's source: count such statements apart). THE CARD IS WHAT COUNTS. Prove the row's statement (the work); the ties are given (YtlncmnphjdeeoaaDoorTie.lean); close each card by the builder's one call (the guide's Derived/Test/ToyasCard.lean, 'card_holds'). Laid BY PROGRAM, IN A SANDBOX (cutbox-door.mjs). By AI agents, Wed Nov 11 2026. No macro, syntax, notation, axiom, sorry.
-/
import Derived.Test.YtlncmnphjdeeoaaDoorRows
import GoSem.ClaimSeven
namespace Go.Proofs.YtlncmnphjdeeoaaDoor
namespace Rows

/-- THE TIED CARD OF 'ringroadlaw21.UnpackArcs'. -/
def unpackArcsCard : Claim7 := { stood := { row := unpackArcsRow, standIns := [], harness := (true, "ce1fb39a81ae287b6fc6d11f2eb590317f9b2062265d55a224d499185c33d138"), looks := false }, kinds := [], alts := [], laidByText := true, laidKinds := [.data], laidTests := true, laidLooks := .later }
def UnpackArcsCardSaid : Prop := Claim7.holds Tryd.pinned (.plain (OpenSpec.ofChange unpackArcsSpec)) unpackArcsCard

/-- THE TIED CARD OF 'ringroadlaw21.UnpackWays'. -/
def unpackWaysCard : Claim7 := { stood := { row := unpackWaysRow, standIns := [], harness := (true, "ce1fb39a81ae287b6fc6d11f2eb590317f9b2062265d55a224d499185c33d138"), looks := false }, kinds := [], alts := [], laidByText := true, laidKinds := [.data], laidTests := true, laidLooks := .later }
def UnpackWaysCardSaid : Prop := Claim7.holds Tryd.pinned (.plain (OpenSpec.ofChange unpackWaysSpec)) unpackWaysCard

/-- THE TIED CARD OF 'ringroadlaw15.IndexEnds'. -/
def indexEndsCard : Claim7 := { stood := { row := indexEndsRow, standIns := [], harness := (true, "ce1fb39a81ae287b6fc6d11f2eb590317f9b2062265d55a224d499185c33d138"), looks := false }, kinds := [], alts := [], laidByText := true, laidKinds := [.data], laidTests := true, laidLooks := .later }
def IndexEndsCardSaid : Prop := Claim7.holds Tryd.pinned (.plain (OpenSpec.ofChange indexEndsSpec)) indexEndsCard

/-- THE TIED CARD OF 'ringroadlaw15.IndexSets'. -/
def indexSetsCard : Claim7 := { stood := { row := indexSetsRow, standIns := [], harness := (true, "ce1fb39a81ae287b6fc6d11f2eb590317f9b2062265d55a224d499185c33d138"), looks := false }, kinds := [], alts := [], laidByText := true, laidKinds := [.data], laidTests := true, laidLooks := .later }
def IndexSetsCardSaid : Prop := Claim7.holds Tryd.pinned (.plain (OpenSpec.ofChange indexSetsSpec)) indexSetsCard

/-- THE TIED CARD OF 'ringroadlaw15.IndexAway'. -/
def indexAwayCard : Claim7 := { stood := { row := indexAwayRow, standIns := [], harness := (true, "ce1fb39a81ae287b6fc6d11f2eb590317f9b2062265d55a224d499185c33d138"), looks := false }, kinds := [], alts := [], laidByText := true, laidKinds := [.data], laidTests := true, laidLooks := .later }
def IndexAwayCardSaid : Prop := Claim7.holds Tryd.pinned (.plain (OpenSpec.ofChange indexAwaySpec)) indexAwayCard

/-- THE TIED CARD OF 'ringroadlaw15.IndexGoes'. -/
def indexGoesCard : Claim7 := { stood := { row := indexGoesRow, standIns := [], harness := (true, "ce1fb39a81ae287b6fc6d11f2eb590317f9b2062265d55a224d499185c33d138"), looks := false }, kinds := [], alts := [], laidByText := true, laidKinds := [.data], laidTests := true, laidLooks := .later }
def IndexGoesCardSaid : Prop := Claim7.holds Tryd.pinned (.plain (OpenSpec.ofChange indexGoesSpec)) indexGoesCard

/-- THE TIED CARD OF 'ringroadlaw15.IndexCopies'. -/
def indexCopiesCard : Claim7 := { stood := { row := indexCopiesRow, standIns := [], harness := (true, "ce1fb39a81ae287b6fc6d11f2eb590317f9b2062265d55a224d499185c33d138"), looks := false }, kinds := [], alts := [], laidByText := true, laidKinds := [.data], laidTests := true, laidLooks := .later }
def IndexCopiesCardSaid : Prop := Claim7.holds Tryd.pinned (.plain (OpenSpec.ofChange indexCopiesSpec)) indexCopiesCard

/-- THE TIED CARD OF 'ringroadlaw17.DepsTells'. -/
def depsTellsCard : Claim7 := { stood := { row := depsTellsRow, standIns := [], harness := (true, "ce1fb39a81ae287b6fc6d11f2eb590317f9b2062265d55a224d499185c33d138"), looks := false }, kinds := [], alts := [], laidByText := true, laidKinds := [.data], laidTests := true, laidLooks := .later }
def DepsTellsCardSaid : Prop := Claim7.holds Tryd.pinned (.plain (OpenSpec.ofChange depsTellsSpec)) depsTellsCard

/-- THE TIED CARD OF 'ringroadlaw17.DepsMoves'. -/
def depsMovesCard : Claim7 := { stood := { row := depsMovesRow, standIns := [], harness := (true, "ce1fb39a81ae287b6fc6d11f2eb590317f9b2062265d55a224d499185c33d138"), looks := false }, kinds := [], alts := [], laidByText := true, laidKinds := [.data], laidTests := true, laidLooks := .later }
def DepsMovesCardSaid : Prop := Claim7.holds Tryd.pinned (.plain (OpenSpec.ofChange depsMovesSpec)) depsMovesCard

/-- THE TIED CARD OF 'ringroadlaw17.DepsBoth'. -/
def depsBothCard : Claim7 := { stood := { row := depsBothRow, standIns := [], harness := (true, "ce1fb39a81ae287b6fc6d11f2eb590317f9b2062265d55a224d499185c33d138"), looks := false }, kinds := [], alts := [], laidByText := true, laidKinds := [.data], laidTests := true, laidLooks := .later }
def DepsBothCardSaid : Prop := Claim7.holds Tryd.pinned (.plain (OpenSpec.ofChange depsBothSpec)) depsBothCard

/-- THE TIED CARD OF 'ringroadlaw15.IndexBest'. -/
def indexBestCard : Claim7 := { stood := { row := indexBestRow, standIns := [], harness := (true, "ce1fb39a81ae287b6fc6d11f2eb590317f9b2062265d55a224d499185c33d138"), looks := false }, kinds := [], alts := [], laidByText := true, laidKinds := [.data], laidTests := true, laidLooks := .later }
def IndexBestCardSaid : Prop := Claim7.holds Tryd.pinned (.plain (OpenSpec.ofChange indexBestSpec)) indexBestCard

/-- THE SECOND FORM's CARD OF 'ringroadlaw21.UnpackArcs'. -/
def unpackArcsUptoCard : Claim7 := { stood := { row := unpackArcsUptoRow, standIns := [], harness := (true, "ce1fb39a81ae287b6fc6d11f2eb590317f9b2062265d55a224d499185c33d138"), looks := false }, kinds := [], alts := [], laidByText := true, laidKinds := [.data], laidTests := true, laidLooks := .later }
def UnpackArcsUptoCardSaid : Prop := Claim7.holds Tryd.pinned (.plain (OpenSpec.upto unpackArcsSpec)) unpackArcsUptoCard

/-- THE SECOND FORM's CARD OF 'ringroadlaw21.UnpackWays'. -/
def unpackWaysUptoCard : Claim7 := { stood := { row := unpackWaysUptoRow, standIns := [], harness := (true, "ce1fb39a81ae287b6fc6d11f2eb590317f9b2062265d55a224d499185c33d138"), looks := false }, kinds := [], alts := [], laidByText := true, laidKinds := [.data], laidTests := true, laidLooks := .later }
def UnpackWaysUptoCardSaid : Prop := Claim7.holds Tryd.pinned (.plain (OpenSpec.upto unpackWaysSpec)) unpackWaysUptoCard

/-- THE SECOND FORM's CARD OF 'ringroadlaw15.IndexEnds'. -/
def indexEndsUptoCard : Claim7 := { stood := { row := indexEndsUptoRow, standIns := [], harness := (true, "ce1fb39a81ae287b6fc6d11f2eb590317f9b2062265d55a224d499185c33d138"), looks := false }, kinds := [], alts := [], laidByText := true, laidKinds := [.data], laidTests := true, laidLooks := .later }
def IndexEndsUptoCardSaid : Prop := Claim7.holds Tryd.pinned (.plain (OpenSpec.upto indexEndsSpec)) indexEndsUptoCard

/-- THE SECOND FORM's CARD OF 'ringroadlaw15.IndexSets'. -/
def indexSetsUptoCard : Claim7 := { stood := { row := indexSetsUptoRow, standIns := [], harness := (true, "ce1fb39a81ae287b6fc6d11f2eb590317f9b2062265d55a224d499185c33d138"), looks := false }, kinds := [], alts := [], laidByText := true, laidKinds := [.data], laidTests := true, laidLooks := .later }
def IndexSetsUptoCardSaid : Prop := Claim7.holds Tryd.pinned (.plain (OpenSpec.upto indexSetsSpec)) indexSetsUptoCard

/-- THE SECOND FORM's CARD OF 'ringroadlaw15.IndexAway'. -/
def indexAwayUptoCard : Claim7 := { stood := { row := indexAwayUptoRow, standIns := [], harness := (true, "ce1fb39a81ae287b6fc6d11f2eb590317f9b2062265d55a224d499185c33d138"), looks := false }, kinds := [], alts := [], laidByText := true, laidKinds := [.data], laidTests := true, laidLooks := .later }
def IndexAwayUptoCardSaid : Prop := Claim7.holds Tryd.pinned (.plain (OpenSpec.upto indexAwaySpec)) indexAwayUptoCard

/-- THE SECOND FORM's CARD OF 'ringroadlaw15.IndexGoes'. -/
def indexGoesUptoCard : Claim7 := { stood := { row := indexGoesUptoRow, standIns := [], harness := (true, "ce1fb39a81ae287b6fc6d11f2eb590317f9b2062265d55a224d499185c33d138"), looks := false }, kinds := [], alts := [], laidByText := true, laidKinds := [.data], laidTests := true, laidLooks := .later }
def IndexGoesUptoCardSaid : Prop := Claim7.holds Tryd.pinned (.plain (OpenSpec.upto indexGoesSpec)) indexGoesUptoCard

/-- THE SECOND FORM's CARD OF 'ringroadlaw15.IndexCopies'. -/
def indexCopiesUptoCard : Claim7 := { stood := { row := indexCopiesUptoRow, standIns := [], harness := (true, "ce1fb39a81ae287b6fc6d11f2eb590317f9b2062265d55a224d499185c33d138"), looks := false }, kinds := [], alts := [], laidByText := true, laidKinds := [.data], laidTests := true, laidLooks := .later }
def IndexCopiesUptoCardSaid : Prop := Claim7.holds Tryd.pinned (.plain (OpenSpec.upto indexCopiesSpec)) indexCopiesUptoCard

/-- THE SECOND FORM's CARD OF 'ringroadlaw17.DepsTells'. -/
def depsTellsUptoCard : Claim7 := { stood := { row := depsTellsUptoRow, standIns := [], harness := (true, "ce1fb39a81ae287b6fc6d11f2eb590317f9b2062265d55a224d499185c33d138"), looks := false }, kinds := [], alts := [], laidByText := true, laidKinds := [.data], laidTests := true, laidLooks := .later }
def DepsTellsUptoCardSaid : Prop := Claim7.holds Tryd.pinned (.plain (OpenSpec.upto depsTellsSpec)) depsTellsUptoCard

/-- THE SECOND FORM's CARD OF 'ringroadlaw17.DepsMoves'. -/
def depsMovesUptoCard : Claim7 := { stood := { row := depsMovesUptoRow, standIns := [], harness := (true, "ce1fb39a81ae287b6fc6d11f2eb590317f9b2062265d55a224d499185c33d138"), looks := false }, kinds := [], alts := [], laidByText := true, laidKinds := [.data], laidTests := true, laidLooks := .later }
def DepsMovesUptoCardSaid : Prop := Claim7.holds Tryd.pinned (.plain (OpenSpec.upto depsMovesSpec)) depsMovesUptoCard

/-- THE SECOND FORM's CARD OF 'ringroadlaw17.DepsBoth'. -/
def depsBothUptoCard : Claim7 := { stood := { row := depsBothUptoRow, standIns := [], harness := (true, "ce1fb39a81ae287b6fc6d11f2eb590317f9b2062265d55a224d499185c33d138"), looks := false }, kinds := [], alts := [], laidByText := true, laidKinds := [.data], laidTests := true, laidLooks := .later }
def DepsBothUptoCardSaid : Prop := Claim7.holds Tryd.pinned (.plain (OpenSpec.upto depsBothSpec)) depsBothUptoCard

/-- THE SECOND FORM's CARD OF 'ringroadlaw15.IndexBest'. -/
def indexBestUptoCard : Claim7 := { stood := { row := indexBestUptoRow, standIns := [], harness := (true, "ce1fb39a81ae287b6fc6d11f2eb590317f9b2062265d55a224d499185c33d138"), looks := false }, kinds := [], alts := [], laidByText := true, laidKinds := [.data], laidTests := true, laidLooks := .later }
def IndexBestUptoCardSaid : Prop := Claim7.holds Tryd.pinned (.plain (OpenSpec.upto indexBestSpec)) indexBestUptoCard
end Rows
end Go.Proofs.YtlncmnphjdeeoaaDoor

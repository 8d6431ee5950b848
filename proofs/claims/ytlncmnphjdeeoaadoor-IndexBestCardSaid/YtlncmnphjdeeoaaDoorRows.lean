/-
  NARROWER THAN 'FOR EVERY INPUT', by the rows' own cells (each row's printed sentence says how): UnpackArcs: laid · UnpackWays: laid · IndexEnds: laid · IndexSets: laid · IndexAway: laid · IndexGoes: laid · IndexCopies: laid · DepsTells: laid · DepsMoves: laid · DepsBoth: laid · IndexBest: laid.
  DERIVED. THE GIVEN ROWS OF THIS SEAT. 11 by the template 'for every input the law returns true; each argument reads behind the call as it read before'; 0 by the template 'total and deterministic' (their statements: YtlncmnphjdeeoaaDoorTotals.lean).
  GIVEN WITH THE SEED: the statements are not yours to turn. If you find one false, say at which input.
  Laid BY PROGRAM, IN A SANDBOX (cutbox-rows.mjs): the forced cells as the released guide's own fill.sh prints them over the translation 2e2c9169bb34749d… (all of the seat's roots in one cut). By AI agents, Wed Nov 11 2026. No macro, syntax, notation, axiom, sorry.
-/
import Derived.Test.YtlncmnphjdeeoaaDoorChecked
import GoSem.Claim
import GoSem.ClaimJoined
import GoSem.ClaimMapViews
import Derived.JoinedTies
import Derived.KernelRfl
namespace Go.Proofs.YtlncmnphjdeeoaaDoor
/- THE CELL 'sum', in the pinned program and in every row, IS THE sha256 OF THE DUMP (.gsa) THAT YtlncmnphjdeeoaaDoorProg.lean LOADS. Nothing in Lean hashes anything: it is a label: what it is worth is what the hold of that sum in a sandbox is worth. -/
noncomputable def Tryd.pinned : Pinned := { name := "ytlncmnphjdeeoaadoor", sum := "2e2c9169bb34749dc5681fb30b276597a7fb653cc8564f5c9c6420fad34dec3d", checked := Tryd.checked }
namespace Rows
def none {H : Type} : Left H := { results := [], args := [] }

/- WHAT THE LISTED PACKAGE-LEVEL VARIABLES READ AS WHEN THE CALL BEGINS. Each datum BY PROGRAM (the guide's laid-datum.mjs) off the statement by which the dump's own 'gosem.cut.vars' lays the variable. In a bare row this is a premise. The card (YtlncmnphjdeeoaaDoorCards.lean) ties it to the program's text. -/
def laid_ringroad_index_none {H : Type} : DataW H := .agg [.lit (.int .i64 4611686018427387906), .lit (.int .i64 (-1)), .lit (.int .i64 (-1))]

/-- 'ringroadlaw21.UnpackArcs': WHATEVER THE INPUT: true; the input reads as it did. -/
def unpackArcsSpec : ChangeSpec := { name := "unpackArcs", fn := fun _ => fun
  | [d1, d2, d3, d4, d5] => { results := [.lit (.bool true)], args := [d1, d2, d3, d4, d5] }
  | _ => none }
def unpackArcsRow : OpenClaim := { program := "ytlncmnphjdeeoaadoor", sum := "2e2c9169bb34749dc5681fb30b276597a7fb653cc8564f5c9c6420fad34dec3d", func := "ringroad/ringroadlaw21.UnpackArcs", spec := "unpackArcs", recurses := true, named := ["ringroad/index.none"], apart := false, laid := [("ringroad/index.none", laid_ringroad_index_none)] }
def UnpackArcsSaid : Prop := unpackArcsRow.holds Tryd.pinned (OpenSpec.ofChange unpackArcsSpec)

/-- ITS FALSE NEIGHBOUR: 'it returns false'. Refute it at one input. -/
def unpackArcsWrong : ChangeSpec := { name := "unpackArcs", fn := fun _ => fun
  | [d1, d2, d3, d4, d5] => { results := [.lit (.bool false)], args := [d1, d2, d3, d4, d5] }
  | _ => none }
def UnpackArcsWrongFalsely : Prop := unpackArcsRow.holds Tryd.pinned (OpenSpec.ofChange unpackArcsWrong)

/-- 'ringroadlaw21.UnpackWays': WHATEVER THE INPUT: true; the input reads as it did. -/
def unpackWaysSpec : ChangeSpec := { name := "unpackWays", fn := fun _ => fun
  | [d1, d2, d3, d4] => { results := [.lit (.bool true)], args := [d1, d2, d3, d4] }
  | _ => none }
def unpackWaysRow : OpenClaim := { program := "ytlncmnphjdeeoaadoor", sum := "2e2c9169bb34749dc5681fb30b276597a7fb653cc8564f5c9c6420fad34dec3d", func := "ringroad/ringroadlaw21.UnpackWays", spec := "unpackWays", recurses := true, named := ["ringroad/index.none"], apart := false, laid := [("ringroad/index.none", laid_ringroad_index_none)] }
def UnpackWaysSaid : Prop := unpackWaysRow.holds Tryd.pinned (OpenSpec.ofChange unpackWaysSpec)

/-- ITS FALSE NEIGHBOUR: 'it returns false'. Refute it at one input. -/
def unpackWaysWrong : ChangeSpec := { name := "unpackWays", fn := fun _ => fun
  | [d1, d2, d3, d4] => { results := [.lit (.bool false)], args := [d1, d2, d3, d4] }
  | _ => none }
def UnpackWaysWrongFalsely : Prop := unpackWaysRow.holds Tryd.pinned (OpenSpec.ofChange unpackWaysWrong)

/-- 'ringroadlaw15.IndexEnds': WHATEVER THE INPUT: true; the input reads as it did. -/
def indexEndsSpec : ChangeSpec := { name := "indexEnds", fn := fun _ => fun
  | [d1, d2, d3] => { results := [.lit (.bool true)], args := [d1, d2, d3] }
  | _ => none }
def indexEndsRow : OpenClaim := { program := "ytlncmnphjdeeoaadoor", sum := "2e2c9169bb34749dc5681fb30b276597a7fb653cc8564f5c9c6420fad34dec3d", func := "ringroad/ringroadlaw15.IndexEnds", spec := "indexEnds", unfollowed := true, recurses := true, named := ["ringroad/index.none"], apart := false, laid := [("ringroad/index.none", laid_ringroad_index_none)] }
def IndexEndsSaid : Prop := indexEndsRow.holds Tryd.pinned (OpenSpec.ofChange indexEndsSpec)

/-- ITS FALSE NEIGHBOUR: 'it returns false'. Refute it at one input. -/
def indexEndsWrong : ChangeSpec := { name := "indexEnds", fn := fun _ => fun
  | [d1, d2, d3] => { results := [.lit (.bool false)], args := [d1, d2, d3] }
  | _ => none }
def IndexEndsWrongFalsely : Prop := indexEndsRow.holds Tryd.pinned (OpenSpec.ofChange indexEndsWrong)

/-- 'ringroadlaw15.IndexSets': WHATEVER THE INPUT: true; the input reads as it did. -/
def indexSetsSpec : ChangeSpec := { name := "indexSets", fn := fun _ => fun
  | [d1, d2] => { results := [.lit (.bool true)], args := [d1, d2] }
  | _ => none }
def indexSetsRow : OpenClaim := { program := "ytlncmnphjdeeoaadoor", sum := "2e2c9169bb34749dc5681fb30b276597a7fb653cc8564f5c9c6420fad34dec3d", func := "ringroad/ringroadlaw15.IndexSets", spec := "indexSets", unfollowed := true, recurses := true, named := ["ringroad/index.none"], apart := false, laid := [("ringroad/index.none", laid_ringroad_index_none)] }
def IndexSetsSaid : Prop := indexSetsRow.holds Tryd.pinned (OpenSpec.ofChange indexSetsSpec)

/-- ITS FALSE NEIGHBOUR: 'it returns false'. Refute it at one input. -/
def indexSetsWrong : ChangeSpec := { name := "indexSets", fn := fun _ => fun
  | [d1, d2] => { results := [.lit (.bool false)], args := [d1, d2] }
  | _ => none }
def IndexSetsWrongFalsely : Prop := indexSetsRow.holds Tryd.pinned (OpenSpec.ofChange indexSetsWrong)

/-- 'ringroadlaw15.IndexAway': WHATEVER THE INPUT: true; the input reads as it did. -/
def indexAwaySpec : ChangeSpec := { name := "indexAway", fn := fun _ => fun
  | [d1, d2, d3, d4, d5] => { results := [.lit (.bool true)], args := [d1, d2, d3, d4, d5] }
  | _ => none }
def indexAwayRow : OpenClaim := { program := "ytlncmnphjdeeoaadoor", sum := "2e2c9169bb34749dc5681fb30b276597a7fb653cc8564f5c9c6420fad34dec3d", func := "ringroad/ringroadlaw15.IndexAway", spec := "indexAway", unfollowed := true, recurses := true, named := ["ringroad/index.none"], apart := false, laid := [("ringroad/index.none", laid_ringroad_index_none)] }
def IndexAwaySaid : Prop := indexAwayRow.holds Tryd.pinned (OpenSpec.ofChange indexAwaySpec)

/-- ITS FALSE NEIGHBOUR: 'it returns false'. Refute it at one input. -/
def indexAwayWrong : ChangeSpec := { name := "indexAway", fn := fun _ => fun
  | [d1, d2, d3, d4, d5] => { results := [.lit (.bool false)], args := [d1, d2, d3, d4, d5] }
  | _ => none }
def IndexAwayWrongFalsely : Prop := indexAwayRow.holds Tryd.pinned (OpenSpec.ofChange indexAwayWrong)

/-- 'ringroadlaw15.IndexGoes': WHATEVER THE INPUT: true; the input reads as it did. -/
def indexGoesSpec : ChangeSpec := { name := "indexGoes", fn := fun _ => fun
  | [d1, d2, d3, d4, d5] => { results := [.lit (.bool true)], args := [d1, d2, d3, d4, d5] }
  | _ => none }
def indexGoesRow : OpenClaim := { program := "ytlncmnphjdeeoaadoor", sum := "2e2c9169bb34749dc5681fb30b276597a7fb653cc8564f5c9c6420fad34dec3d", func := "ringroad/ringroadlaw15.IndexGoes", spec := "indexGoes", unfollowed := true, recurses := true, named := ["ringroad/index.none"], apart := false, laid := [("ringroad/index.none", laid_ringroad_index_none)] }
def IndexGoesSaid : Prop := indexGoesRow.holds Tryd.pinned (OpenSpec.ofChange indexGoesSpec)

/-- ITS FALSE NEIGHBOUR: 'it returns false'. Refute it at one input. -/
def indexGoesWrong : ChangeSpec := { name := "indexGoes", fn := fun _ => fun
  | [d1, d2, d3, d4, d5] => { results := [.lit (.bool false)], args := [d1, d2, d3, d4, d5] }
  | _ => none }
def IndexGoesWrongFalsely : Prop := indexGoesRow.holds Tryd.pinned (OpenSpec.ofChange indexGoesWrong)

/-- 'ringroadlaw15.IndexCopies': WHATEVER THE INPUT: true; the input reads as it did. -/
def indexCopiesSpec : ChangeSpec := { name := "indexCopies", fn := fun _ => fun
  | [d1, d2, d3, d4, d5, d6] => { results := [.lit (.bool true)], args := [d1, d2, d3, d4, d5, d6] }
  | _ => none }
def indexCopiesRow : OpenClaim := { program := "ytlncmnphjdeeoaadoor", sum := "2e2c9169bb34749dc5681fb30b276597a7fb653cc8564f5c9c6420fad34dec3d", func := "ringroad/ringroadlaw15.IndexCopies", spec := "indexCopies", unfollowed := true, recurses := true, named := ["ringroad/index.none"], apart := false, laid := [("ringroad/index.none", laid_ringroad_index_none)] }
def IndexCopiesSaid : Prop := indexCopiesRow.holds Tryd.pinned (OpenSpec.ofChange indexCopiesSpec)

/-- ITS FALSE NEIGHBOUR: 'it returns false'. Refute it at one input. -/
def indexCopiesWrong : ChangeSpec := { name := "indexCopies", fn := fun _ => fun
  | [d1, d2, d3, d4, d5, d6] => { results := [.lit (.bool false)], args := [d1, d2, d3, d4, d5, d6] }
  | _ => none }
def IndexCopiesWrongFalsely : Prop := indexCopiesRow.holds Tryd.pinned (OpenSpec.ofChange indexCopiesWrong)

/-- 'ringroadlaw17.DepsTells': WHATEVER THE INPUT: true; the input reads as it did. -/
def depsTellsSpec : ChangeSpec := { name := "depsTells", fn := fun _ => fun
  | [d1, d2, d3, d4, d5] => { results := [.lit (.bool true)], args := [d1, d2, d3, d4, d5] }
  | _ => none }
def depsTellsRow : OpenClaim := { program := "ytlncmnphjdeeoaadoor", sum := "2e2c9169bb34749dc5681fb30b276597a7fb653cc8564f5c9c6420fad34dec3d", func := "ringroad/ringroadlaw17.DepsTells", spec := "depsTells", unfollowed := true, recurses := true, named := ["ringroad/index.none"], apart := false, laid := [("ringroad/index.none", laid_ringroad_index_none)] }
def DepsTellsSaid : Prop := depsTellsRow.holds Tryd.pinned (OpenSpec.ofChange depsTellsSpec)

/-- ITS FALSE NEIGHBOUR: 'it returns false'. Refute it at one input. -/
def depsTellsWrong : ChangeSpec := { name := "depsTells", fn := fun _ => fun
  | [d1, d2, d3, d4, d5] => { results := [.lit (.bool false)], args := [d1, d2, d3, d4, d5] }
  | _ => none }
def DepsTellsWrongFalsely : Prop := depsTellsRow.holds Tryd.pinned (OpenSpec.ofChange depsTellsWrong)

/-- 'ringroadlaw17.DepsMoves': WHATEVER THE INPUT: true; the input reads as it did. -/
def depsMovesSpec : ChangeSpec := { name := "depsMoves", fn := fun _ => fun
  | [d1, d2, d3, d4, d5, d6] => { results := [.lit (.bool true)], args := [d1, d2, d3, d4, d5, d6] }
  | _ => none }
def depsMovesRow : OpenClaim := { program := "ytlncmnphjdeeoaadoor", sum := "2e2c9169bb34749dc5681fb30b276597a7fb653cc8564f5c9c6420fad34dec3d", func := "ringroad/ringroadlaw17.DepsMoves", spec := "depsMoves", unfollowed := true, recurses := true, named := ["ringroad/index.none"], apart := false, laid := [("ringroad/index.none", laid_ringroad_index_none)] }
def DepsMovesSaid : Prop := depsMovesRow.holds Tryd.pinned (OpenSpec.ofChange depsMovesSpec)

/-- ITS FALSE NEIGHBOUR: 'it returns false'. Refute it at one input. -/
def depsMovesWrong : ChangeSpec := { name := "depsMoves", fn := fun _ => fun
  | [d1, d2, d3, d4, d5, d6] => { results := [.lit (.bool false)], args := [d1, d2, d3, d4, d5, d6] }
  | _ => none }
def DepsMovesWrongFalsely : Prop := depsMovesRow.holds Tryd.pinned (OpenSpec.ofChange depsMovesWrong)

/-- 'ringroadlaw17.DepsBoth': WHATEVER THE INPUT: true; the input reads as it did. -/
def depsBothSpec : ChangeSpec := { name := "depsBoth", fn := fun _ => fun
  | [d1, d2, d3, d4, d5, d6] => { results := [.lit (.bool true)], args := [d1, d2, d3, d4, d5, d6] }
  | _ => none }
def depsBothRow : OpenClaim := { program := "ytlncmnphjdeeoaadoor", sum := "2e2c9169bb34749dc5681fb30b276597a7fb653cc8564f5c9c6420fad34dec3d", func := "ringroad/ringroadlaw17.DepsBoth", spec := "depsBoth", unfollowed := true, recurses := true, named := ["ringroad/index.none"], apart := false, laid := [("ringroad/index.none", laid_ringroad_index_none)] }
def DepsBothSaid : Prop := depsBothRow.holds Tryd.pinned (OpenSpec.ofChange depsBothSpec)

/-- ITS FALSE NEIGHBOUR: 'it returns false'. Refute it at one input. -/
def depsBothWrong : ChangeSpec := { name := "depsBoth", fn := fun _ => fun
  | [d1, d2, d3, d4, d5, d6] => { results := [.lit (.bool false)], args := [d1, d2, d3, d4, d5, d6] }
  | _ => none }
def DepsBothWrongFalsely : Prop := depsBothRow.holds Tryd.pinned (OpenSpec.ofChange depsBothWrong)

/-- 'ringroadlaw15.IndexBest': WHATEVER THE INPUT: true; the input reads as it did. -/
def indexBestSpec : ChangeSpec := { name := "indexBest", fn := fun _ => fun
  | [d1, d2, d3, d4] => { results := [.lit (.bool true)], args := [d1, d2, d3, d4] }
  | _ => none }
def indexBestRow : OpenClaim := { program := "ytlncmnphjdeeoaadoor", sum := "2e2c9169bb34749dc5681fb30b276597a7fb653cc8564f5c9c6420fad34dec3d", func := "ringroad/ringroadlaw15.IndexBest", spec := "indexBest", inPlace := ["slices.overlaps[int]"], unfollowed := true, recurses := true, named := ["ringroad/index.none"], apart := false, laid := [("ringroad/index.none", laid_ringroad_index_none)] }
def IndexBestSaid : Prop := indexBestRow.holds Tryd.pinned (OpenSpec.ofChange indexBestSpec)

/-- ITS FALSE NEIGHBOUR: 'it returns false'. Refute it at one input. -/
def indexBestWrong : ChangeSpec := { name := "indexBest", fn := fun _ => fun
  | [d1, d2, d3, d4] => { results := [.lit (.bool false)], args := [d1, d2, d3, d4] }
  | _ => none }
def IndexBestWrongFalsely : Prop := indexBestRow.holds Tryd.pinned (OpenSpec.ofChange indexBestWrong)

/- THE SECOND FORM. 'bulk': how many values and letters a reading holds, each counted each time it is reached (what is shared counts as often as it is met; a slice's spare places count too). A statement '..UptoSaid' is the law's where the arguments, and the package variables that the reading takes, are together of bulk at most 1048576: NARROWER than '..Said'. Prove '..Said' where nothing that the law and all that it calls make is longer than what came in: it says more and counts as full. Else prove '..UptoSaid'. A law counts once. -/
mutual
def uptoBulk {H : Type} : DataW H → Nat
  | .lit (.string bytes) => bytes.length + 1
  | .lit _ => 1
  | .nil => 1
  | .ptr d => uptoBulk d + 1
  | .slice elems spare => uptoBulkAll elems + uptoBulkAll spare + 1
  | .agg parts => uptoBulkAll parts + 1
  | .iface _ d => uptoBulk d + 1
  | .map entries => uptoBulkEntries entries + 1
  | .held _ => 1
def uptoBulkAll {H : Type} : List (DataW H) → Nat
  | [] => 0
  | d :: r => uptoBulk d + uptoBulkAll r
def uptoBulkEntries {H : Type} : List (Lit × DataW H) → Nat
  | [] => 0
  | x :: r => uptoBulkEntry x + uptoBulkEntries r
def uptoBulkEntry {H : Type} : Lit × DataW H → Nat
  | (.string bytes, d) => bytes.length + uptoBulk d + 1
  | (_, d) => uptoBulk d + 1
 end
def uptoSmall : (H : Type) → List (DataW H) → Bool := fun _ ds => decide (uptoBulkAll ds ≤ 1048576)
def OpenSpec.upto (s : _root_.Go.ChangeSpec) : _root_.Go.OpenSpec := { _root_.Go.OpenSpec.ofChange s with cond := some uptoSmall }

/-- 'ringroadlaw21.UnpackArcs', WHERE WHAT IT READS IS OF BULK AT MOST 1048576: true; the input reads as it did. -/
def unpackArcsUptoRow : OpenClaim := { program := "ytlncmnphjdeeoaadoor", sum := "2e2c9169bb34749dc5681fb30b276597a7fb653cc8564f5c9c6420fad34dec3d", func := "ringroad/ringroadlaw21.UnpackArcs", spec := "unpackArcs", recurses := true, named := ["ringroad/index.none"], apart := false, laid := [("ringroad/index.none", laid_ringroad_index_none)], narrowed := true }
def UnpackArcsUptoSaid : Prop := unpackArcsUptoRow.holds Tryd.pinned (OpenSpec.upto unpackArcsSpec)

/-- 'ringroadlaw21.UnpackWays', WHERE WHAT IT READS IS OF BULK AT MOST 1048576: true; the input reads as it did. -/
def unpackWaysUptoRow : OpenClaim := { program := "ytlncmnphjdeeoaadoor", sum := "2e2c9169bb34749dc5681fb30b276597a7fb653cc8564f5c9c6420fad34dec3d", func := "ringroad/ringroadlaw21.UnpackWays", spec := "unpackWays", recurses := true, named := ["ringroad/index.none"], apart := false, laid := [("ringroad/index.none", laid_ringroad_index_none)], narrowed := true }
def UnpackWaysUptoSaid : Prop := unpackWaysUptoRow.holds Tryd.pinned (OpenSpec.upto unpackWaysSpec)

/-- 'ringroadlaw15.IndexEnds', WHERE WHAT IT READS IS OF BULK AT MOST 1048576: true; the input reads as it did. -/
def indexEndsUptoRow : OpenClaim := { program := "ytlncmnphjdeeoaadoor", sum := "2e2c9169bb34749dc5681fb30b276597a7fb653cc8564f5c9c6420fad34dec3d", func := "ringroad/ringroadlaw15.IndexEnds", spec := "indexEnds", unfollowed := true, recurses := true, named := ["ringroad/index.none"], apart := false, laid := [("ringroad/index.none", laid_ringroad_index_none)], narrowed := true }
def IndexEndsUptoSaid : Prop := indexEndsUptoRow.holds Tryd.pinned (OpenSpec.upto indexEndsSpec)

/-- 'ringroadlaw15.IndexSets', WHERE WHAT IT READS IS OF BULK AT MOST 1048576: true; the input reads as it did. -/
def indexSetsUptoRow : OpenClaim := { program := "ytlncmnphjdeeoaadoor", sum := "2e2c9169bb34749dc5681fb30b276597a7fb653cc8564f5c9c6420fad34dec3d", func := "ringroad/ringroadlaw15.IndexSets", spec := "indexSets", unfollowed := true, recurses := true, named := ["ringroad/index.none"], apart := false, laid := [("ringroad/index.none", laid_ringroad_index_none)], narrowed := true }
def IndexSetsUptoSaid : Prop := indexSetsUptoRow.holds Tryd.pinned (OpenSpec.upto indexSetsSpec)

/-- 'ringroadlaw15.IndexAway', WHERE WHAT IT READS IS OF BULK AT MOST 1048576: true; the input reads as it did. -/
def indexAwayUptoRow : OpenClaim := { program := "ytlncmnphjdeeoaadoor", sum := "2e2c9169bb34749dc5681fb30b276597a7fb653cc8564f5c9c6420fad34dec3d", func := "ringroad/ringroadlaw15.IndexAway", spec := "indexAway", unfollowed := true, recurses := true, named := ["ringroad/index.none"], apart := false, laid := [("ringroad/index.none", laid_ringroad_index_none)], narrowed := true }
def IndexAwayUptoSaid : Prop := indexAwayUptoRow.holds Tryd.pinned (OpenSpec.upto indexAwaySpec)

/-- 'ringroadlaw15.IndexGoes', WHERE WHAT IT READS IS OF BULK AT MOST 1048576: true; the input reads as it did. -/
def indexGoesUptoRow : OpenClaim := { program := "ytlncmnphjdeeoaadoor", sum := "2e2c9169bb34749dc5681fb30b276597a7fb653cc8564f5c9c6420fad34dec3d", func := "ringroad/ringroadlaw15.IndexGoes", spec := "indexGoes", unfollowed := true, recurses := true, named := ["ringroad/index.none"], apart := false, laid := [("ringroad/index.none", laid_ringroad_index_none)], narrowed := true }
def IndexGoesUptoSaid : Prop := indexGoesUptoRow.holds Tryd.pinned (OpenSpec.upto indexGoesSpec)

/-- 'ringroadlaw15.IndexCopies', WHERE WHAT IT READS IS OF BULK AT MOST 1048576: true; the input reads as it did. -/
def indexCopiesUptoRow : OpenClaim := { program := "ytlncmnphjdeeoaadoor", sum := "2e2c9169bb34749dc5681fb30b276597a7fb653cc8564f5c9c6420fad34dec3d", func := "ringroad/ringroadlaw15.IndexCopies", spec := "indexCopies", unfollowed := true, recurses := true, named := ["ringroad/index.none"], apart := false, laid := [("ringroad/index.none", laid_ringroad_index_none)], narrowed := true }
def IndexCopiesUptoSaid : Prop := indexCopiesUptoRow.holds Tryd.pinned (OpenSpec.upto indexCopiesSpec)

/-- 'ringroadlaw17.DepsTells', WHERE WHAT IT READS IS OF BULK AT MOST 1048576: true; the input reads as it did. -/
def depsTellsUptoRow : OpenClaim := { program := "ytlncmnphjdeeoaadoor", sum := "2e2c9169bb34749dc5681fb30b276597a7fb653cc8564f5c9c6420fad34dec3d", func := "ringroad/ringroadlaw17.DepsTells", spec := "depsTells", unfollowed := true, recurses := true, named := ["ringroad/index.none"], apart := false, laid := [("ringroad/index.none", laid_ringroad_index_none)], narrowed := true }
def DepsTellsUptoSaid : Prop := depsTellsUptoRow.holds Tryd.pinned (OpenSpec.upto depsTellsSpec)

/-- 'ringroadlaw17.DepsMoves', WHERE WHAT IT READS IS OF BULK AT MOST 1048576: true; the input reads as it did. -/
def depsMovesUptoRow : OpenClaim := { program := "ytlncmnphjdeeoaadoor", sum := "2e2c9169bb34749dc5681fb30b276597a7fb653cc8564f5c9c6420fad34dec3d", func := "ringroad/ringroadlaw17.DepsMoves", spec := "depsMoves", unfollowed := true, recurses := true, named := ["ringroad/index.none"], apart := false, laid := [("ringroad/index.none", laid_ringroad_index_none)], narrowed := true }
def DepsMovesUptoSaid : Prop := depsMovesUptoRow.holds Tryd.pinned (OpenSpec.upto depsMovesSpec)

/-- 'ringroadlaw17.DepsBoth', WHERE WHAT IT READS IS OF BULK AT MOST 1048576: true; the input reads as it did. -/
def depsBothUptoRow : OpenClaim := { program := "ytlncmnphjdeeoaadoor", sum := "2e2c9169bb34749dc5681fb30b276597a7fb653cc8564f5c9c6420fad34dec3d", func := "ringroad/ringroadlaw17.DepsBoth", spec := "depsBoth", unfollowed := true, recurses := true, named := ["ringroad/index.none"], apart := false, laid := [("ringroad/index.none", laid_ringroad_index_none)], narrowed := true }
def DepsBothUptoSaid : Prop := depsBothUptoRow.holds Tryd.pinned (OpenSpec.upto depsBothSpec)

/-- 'ringroadlaw15.IndexBest', WHERE WHAT IT READS IS OF BULK AT MOST 1048576: true; the input reads as it did. -/
def indexBestUptoRow : OpenClaim := { program := "ytlncmnphjdeeoaadoor", sum := "2e2c9169bb34749dc5681fb30b276597a7fb653cc8564f5c9c6420fad34dec3d", func := "ringroad/ringroadlaw15.IndexBest", spec := "indexBest", inPlace := ["slices.overlaps[int]"], unfollowed := true, recurses := true, named := ["ringroad/index.none"], apart := false, laid := [("ringroad/index.none", laid_ringroad_index_none)], narrowed := true }
def IndexBestUptoSaid : Prop := indexBestUptoRow.holds Tryd.pinned (OpenSpec.upto indexBestSpec)

end Rows
end Go.Proofs.YtlncmnphjdeeoaaDoor

/-
  NARROWER THAN 'FOR EVERY INPUT', by the rows' own cells (each row's printed sentence says how): ClimbDists: laid · ClimbOrders: laid · ClimbEdges: laid · ClimbMeets: laid · BuildBetween: laid · BuildSets: laid · BuildUps: laid · BuildWhole: laid · BuildMiddles: laid · BuildTells: laid · BuildCloses: laid.
  DERIVED. THE GIVEN ROWS OF THIS SEAT. 11 by the template 'for every input the law returns true; each argument reads behind the call as it read before'; 0 by the template 'total and deterministic' (their statements: YthnmomiglgomfaaGreatDoorTotals.lean).
  GIVEN WITH THE SEED: the statements are not yours to turn. If you find one false, say at which input.
  Laid BY PROGRAM, IN A SANDBOX (cutbox-rows.mjs): the forced cells as the released guide's own fill.sh prints them over the translation b6265ca675f41b2c… (all of the seat's roots in one cut). By AI agents, Wed Nov 11 2026. No macro, syntax, notation, axiom, sorry.
-/
import Derived.Test.YthnmomiglgomfaaGreatDoorChecked
import GoSem.Claim
import GoSem.ClaimJoined
import GoSem.ClaimMapViews
import Derived.JoinedTies
import Derived.KernelRfl
namespace Go.Proofs.YthnmomiglgomfaaGreatDoor
/- THE CELL 'sum', in the pinned program and in every row, IS THE sha256 OF THE DUMP (.gsa) THAT YthnmomiglgomfaaGreatDoorProg.lean LOADS. Nothing in Lean hashes anything: it is a label: what it is worth is what the hold of that sum in a sandbox is worth. -/
noncomputable def Tryz.pinned : Pinned := { name := "ythnmomiglgomfaagreatdoor", sum := "b6265ca675f41b2cd9c610d8a3769eb36d8276442ae11bb0f9e4f3b05328932d", checked := Tryz.checked }
namespace Rows
def none {H : Type} : Left H := { results := [], args := [] }

/- WHAT THE LISTED PACKAGE-LEVEL VARIABLES READ AS WHEN THE CALL BEGINS. Each datum BY PROGRAM (the guide's laid-datum.mjs) off the statement by which the dump's own 'gosem.cut.vars' lays the variable. In a bare row this is a premise. The card (YthnmomiglgomfaaGreatDoorCards.lean) ties it to the program's text. -/
def laid_ringroad_index_none {H : Type} : DataW H := .agg [.lit (.int .i64 4611686018427387906), .lit (.int .i64 (-1)), .lit (.int .i64 (-1))]

/-- 'ringroadlaw20.ClimbDists': WHATEVER THE INPUT: true; the input reads as it did. -/
def climbDistsSpec : ChangeSpec := { name := "climbDists", fn := fun _ => fun
  | [d1, d2, d3] => { results := [.lit (.bool true)], args := [d1, d2, d3] }
  | _ => none }
def climbDistsRow : OpenClaim := { program := "ythnmomiglgomfaagreatdoor", sum := "b6265ca675f41b2cd9c610d8a3769eb36d8276442ae11bb0f9e4f3b05328932d", func := "ringroad/ringroadlaw20.ClimbDists", spec := "climbDists", inPlace := ["slices.overlaps[int]"], unfollowed := true, recurses := true, named := ["ringroad/index.none"], apart := false, laid := [("ringroad/index.none", laid_ringroad_index_none)] }
def ClimbDistsSaid : Prop := climbDistsRow.holds Tryz.pinned (OpenSpec.ofChange climbDistsSpec)

/-- ITS FALSE NEIGHBOUR: 'it returns false'. Refute it at one input. -/
def climbDistsWrong : ChangeSpec := { name := "climbDists", fn := fun _ => fun
  | [d1, d2, d3] => { results := [.lit (.bool false)], args := [d1, d2, d3] }
  | _ => none }
def ClimbDistsWrongFalsely : Prop := climbDistsRow.holds Tryz.pinned (OpenSpec.ofChange climbDistsWrong)

/-- 'ringroadlaw20.ClimbOrders': WHATEVER THE INPUT: true; the input reads as it did. -/
def climbOrdersSpec : ChangeSpec := { name := "climbOrders", fn := fun _ => fun
  | [d1, d2, d3, d4] => { results := [.lit (.bool true)], args := [d1, d2, d3, d4] }
  | _ => none }
def climbOrdersRow : OpenClaim := { program := "ythnmomiglgomfaagreatdoor", sum := "b6265ca675f41b2cd9c610d8a3769eb36d8276442ae11bb0f9e4f3b05328932d", func := "ringroad/ringroadlaw20.ClimbOrders", spec := "climbOrders", inPlace := ["slices.overlaps[int]"], unfollowed := true, recurses := true, named := ["ringroad/index.none"], apart := false, laid := [("ringroad/index.none", laid_ringroad_index_none)] }
def ClimbOrdersSaid : Prop := climbOrdersRow.holds Tryz.pinned (OpenSpec.ofChange climbOrdersSpec)

/-- ITS FALSE NEIGHBOUR: 'it returns false'. Refute it at one input. -/
def climbOrdersWrong : ChangeSpec := { name := "climbOrders", fn := fun _ => fun
  | [d1, d2, d3, d4] => { results := [.lit (.bool false)], args := [d1, d2, d3, d4] }
  | _ => none }
def ClimbOrdersWrongFalsely : Prop := climbOrdersRow.holds Tryz.pinned (OpenSpec.ofChange climbOrdersWrong)

/-- 'ringroadlaw20.ClimbEdges': WHATEVER THE INPUT: true; the input reads as it did. -/
def climbEdgesSpec : ChangeSpec := { name := "climbEdges", fn := fun _ => fun
  | [d1, d2, d3, d4] => { results := [.lit (.bool true)], args := [d1, d2, d3, d4] }
  | _ => none }
def climbEdgesRow : OpenClaim := { program := "ythnmomiglgomfaagreatdoor", sum := "b6265ca675f41b2cd9c610d8a3769eb36d8276442ae11bb0f9e4f3b05328932d", func := "ringroad/ringroadlaw20.ClimbEdges", spec := "climbEdges", inPlace := ["slices.overlaps[int]"], unfollowed := true, recurses := true, named := ["ringroad/index.none"], apart := false, laid := [("ringroad/index.none", laid_ringroad_index_none)] }
def ClimbEdgesSaid : Prop := climbEdgesRow.holds Tryz.pinned (OpenSpec.ofChange climbEdgesSpec)

/-- ITS FALSE NEIGHBOUR: 'it returns false'. Refute it at one input. -/
def climbEdgesWrong : ChangeSpec := { name := "climbEdges", fn := fun _ => fun
  | [d1, d2, d3, d4] => { results := [.lit (.bool false)], args := [d1, d2, d3, d4] }
  | _ => none }
def ClimbEdgesWrongFalsely : Prop := climbEdgesRow.holds Tryz.pinned (OpenSpec.ofChange climbEdgesWrong)

/-- 'ringroadlaw20.ClimbMeets': WHATEVER THE INPUT: true; the input reads as it did. -/
def climbMeetsSpec : ChangeSpec := { name := "climbMeets", fn := fun _ => fun
  | [d1, d2, d3, d4, d5] => { results := [.lit (.bool true)], args := [d1, d2, d3, d4, d5] }
  | _ => none }
def climbMeetsRow : OpenClaim := { program := "ythnmomiglgomfaagreatdoor", sum := "b6265ca675f41b2cd9c610d8a3769eb36d8276442ae11bb0f9e4f3b05328932d", func := "ringroad/ringroadlaw20.ClimbMeets", spec := "climbMeets", inPlace := ["slices.overlaps[int]"], unfollowed := true, recurses := true, named := ["ringroad/index.none"], apart := false, laid := [("ringroad/index.none", laid_ringroad_index_none)] }
def ClimbMeetsSaid : Prop := climbMeetsRow.holds Tryz.pinned (OpenSpec.ofChange climbMeetsSpec)

/-- ITS FALSE NEIGHBOUR: 'it returns false'. Refute it at one input. -/
def climbMeetsWrong : ChangeSpec := { name := "climbMeets", fn := fun _ => fun
  | [d1, d2, d3, d4, d5] => { results := [.lit (.bool false)], args := [d1, d2, d3, d4, d5] }
  | _ => none }
def ClimbMeetsWrongFalsely : Prop := climbMeetsRow.holds Tryz.pinned (OpenSpec.ofChange climbMeetsWrong)

/-- 'ringroadlaw16.BuildBetween': WHATEVER THE INPUT: true; the input reads as it did. -/
def buildBetweenSpec : ChangeSpec := { name := "buildBetween", fn := fun _ => fun
  | [d1, d2, d3, d4, d5] => { results := [.lit (.bool true)], args := [d1, d2, d3, d4, d5] }
  | _ => none }
def buildBetweenRow : OpenClaim := { program := "ythnmomiglgomfaagreatdoor", sum := "b6265ca675f41b2cd9c610d8a3769eb36d8276442ae11bb0f9e4f3b05328932d", func := "ringroad/ringroadlaw16.BuildBetween", spec := "buildBetween", inPlace := ["slices.overlaps[int]"], unfollowed := true, recurses := true, named := ["ringroad/index.none"], apart := false, laid := [("ringroad/index.none", laid_ringroad_index_none)] }
def BuildBetweenSaid : Prop := buildBetweenRow.holds Tryz.pinned (OpenSpec.ofChange buildBetweenSpec)

/-- ITS FALSE NEIGHBOUR: 'it returns false'. Refute it at one input. -/
def buildBetweenWrong : ChangeSpec := { name := "buildBetween", fn := fun _ => fun
  | [d1, d2, d3, d4, d5] => { results := [.lit (.bool false)], args := [d1, d2, d3, d4, d5] }
  | _ => none }
def BuildBetweenWrongFalsely : Prop := buildBetweenRow.holds Tryz.pinned (OpenSpec.ofChange buildBetweenWrong)

/-- 'ringroadlaw16.BuildSets': WHATEVER THE INPUT: true; the input reads as it did. -/
def buildSetsSpec : ChangeSpec := { name := "buildSets", fn := fun _ => fun
  | [d1, d2, d3] => { results := [.lit (.bool true)], args := [d1, d2, d3] }
  | _ => none }
def buildSetsRow : OpenClaim := { program := "ythnmomiglgomfaagreatdoor", sum := "b6265ca675f41b2cd9c610d8a3769eb36d8276442ae11bb0f9e4f3b05328932d", func := "ringroad/ringroadlaw16.BuildSets", spec := "buildSets", inPlace := ["slices.overlaps[int]"], unfollowed := true, recurses := true, named := ["ringroad/index.none"], apart := false, laid := [("ringroad/index.none", laid_ringroad_index_none)] }
def BuildSetsSaid : Prop := buildSetsRow.holds Tryz.pinned (OpenSpec.ofChange buildSetsSpec)

/-- ITS FALSE NEIGHBOUR: 'it returns false'. Refute it at one input. -/
def buildSetsWrong : ChangeSpec := { name := "buildSets", fn := fun _ => fun
  | [d1, d2, d3] => { results := [.lit (.bool false)], args := [d1, d2, d3] }
  | _ => none }
def BuildSetsWrongFalsely : Prop := buildSetsRow.holds Tryz.pinned (OpenSpec.ofChange buildSetsWrong)

/-- 'ringroadlaw16.BuildUps': WHATEVER THE INPUT: true; the input reads as it did. -/
def buildUpsSpec : ChangeSpec := { name := "buildUps", fn := fun _ => fun
  | [d1, d2, d3] => { results := [.lit (.bool true)], args := [d1, d2, d3] }
  | _ => none }
def buildUpsRow : OpenClaim := { program := "ythnmomiglgomfaagreatdoor", sum := "b6265ca675f41b2cd9c610d8a3769eb36d8276442ae11bb0f9e4f3b05328932d", func := "ringroad/ringroadlaw16.BuildUps", spec := "buildUps", inPlace := ["slices.overlaps[int]"], unfollowed := true, recurses := true, named := ["ringroad/index.none"], apart := false, laid := [("ringroad/index.none", laid_ringroad_index_none)] }
def BuildUpsSaid : Prop := buildUpsRow.holds Tryz.pinned (OpenSpec.ofChange buildUpsSpec)

/-- ITS FALSE NEIGHBOUR: 'it returns false'. Refute it at one input. -/
def buildUpsWrong : ChangeSpec := { name := "buildUps", fn := fun _ => fun
  | [d1, d2, d3] => { results := [.lit (.bool false)], args := [d1, d2, d3] }
  | _ => none }
def BuildUpsWrongFalsely : Prop := buildUpsRow.holds Tryz.pinned (OpenSpec.ofChange buildUpsWrong)

/-- 'ringroadlaw16.BuildWhole': WHATEVER THE INPUT: true; the input reads as it did. -/
def buildWholeSpec : ChangeSpec := { name := "buildWhole", fn := fun _ => fun
  | [d1, d2, d3, d4, d5, d6] => { results := [.lit (.bool true)], args := [d1, d2, d3, d4, d5, d6] }
  | _ => none }
def buildWholeRow : OpenClaim := { program := "ythnmomiglgomfaagreatdoor", sum := "b6265ca675f41b2cd9c610d8a3769eb36d8276442ae11bb0f9e4f3b05328932d", func := "ringroad/ringroadlaw16.BuildWhole", spec := "buildWhole", inPlace := ["slices.overlaps[int]"], unfollowed := true, recurses := true, named := ["ringroad/index.none"], apart := false, laid := [("ringroad/index.none", laid_ringroad_index_none)] }
def BuildWholeSaid : Prop := buildWholeRow.holds Tryz.pinned (OpenSpec.ofChange buildWholeSpec)

/-- ITS FALSE NEIGHBOUR: 'it returns false'. Refute it at one input. -/
def buildWholeWrong : ChangeSpec := { name := "buildWhole", fn := fun _ => fun
  | [d1, d2, d3, d4, d5, d6] => { results := [.lit (.bool false)], args := [d1, d2, d3, d4, d5, d6] }
  | _ => none }
def BuildWholeWrongFalsely : Prop := buildWholeRow.holds Tryz.pinned (OpenSpec.ofChange buildWholeWrong)

/-- 'ringroadlaw16.BuildMiddles': WHATEVER THE INPUT: true; the input reads as it did. -/
def buildMiddlesSpec : ChangeSpec := { name := "buildMiddles", fn := fun _ => fun
  | [d1, d2, d3] => { results := [.lit (.bool true)], args := [d1, d2, d3] }
  | _ => none }
def buildMiddlesRow : OpenClaim := { program := "ythnmomiglgomfaagreatdoor", sum := "b6265ca675f41b2cd9c610d8a3769eb36d8276442ae11bb0f9e4f3b05328932d", func := "ringroad/ringroadlaw16.BuildMiddles", spec := "buildMiddles", inPlace := ["slices.overlaps[int]"], unfollowed := true, recurses := true, named := ["ringroad/index.none"], apart := false, laid := [("ringroad/index.none", laid_ringroad_index_none)] }
def BuildMiddlesSaid : Prop := buildMiddlesRow.holds Tryz.pinned (OpenSpec.ofChange buildMiddlesSpec)

/-- ITS FALSE NEIGHBOUR: 'it returns false'. Refute it at one input. -/
def buildMiddlesWrong : ChangeSpec := { name := "buildMiddles", fn := fun _ => fun
  | [d1, d2, d3] => { results := [.lit (.bool false)], args := [d1, d2, d3] }
  | _ => none }
def BuildMiddlesWrongFalsely : Prop := buildMiddlesRow.holds Tryz.pinned (OpenSpec.ofChange buildMiddlesWrong)

/-- 'ringroadlaw16.BuildTells': WHATEVER THE INPUT: true; the input reads as it did. -/
def buildTellsSpec : ChangeSpec := { name := "buildTells", fn := fun _ => fun
  | [d1, d2, d3] => { results := [.lit (.bool true)], args := [d1, d2, d3] }
  | _ => none }
def buildTellsRow : OpenClaim := { program := "ythnmomiglgomfaagreatdoor", sum := "b6265ca675f41b2cd9c610d8a3769eb36d8276442ae11bb0f9e4f3b05328932d", func := "ringroad/ringroadlaw16.BuildTells", spec := "buildTells", inPlace := ["slices.overlaps[int]"], unfollowed := true, recurses := true, named := ["ringroad/index.none"], apart := false, laid := [("ringroad/index.none", laid_ringroad_index_none)] }
def BuildTellsSaid : Prop := buildTellsRow.holds Tryz.pinned (OpenSpec.ofChange buildTellsSpec)

/-- ITS FALSE NEIGHBOUR: 'it returns false'. Refute it at one input. -/
def buildTellsWrong : ChangeSpec := { name := "buildTells", fn := fun _ => fun
  | [d1, d2, d3] => { results := [.lit (.bool false)], args := [d1, d2, d3] }
  | _ => none }
def BuildTellsWrongFalsely : Prop := buildTellsRow.holds Tryz.pinned (OpenSpec.ofChange buildTellsWrong)

/-- 'ringroadlaw16.BuildCloses': WHATEVER THE INPUT: true; the input reads as it did. -/
def buildClosesSpec : ChangeSpec := { name := "buildCloses", fn := fun _ => fun
  | [d1, d2, d3, d4] => { results := [.lit (.bool true)], args := [d1, d2, d3, d4] }
  | _ => none }
def buildClosesRow : OpenClaim := { program := "ythnmomiglgomfaagreatdoor", sum := "b6265ca675f41b2cd9c610d8a3769eb36d8276442ae11bb0f9e4f3b05328932d", func := "ringroad/ringroadlaw16.BuildCloses", spec := "buildCloses", inPlace := ["slices.overlaps[int]"], unfollowed := true, recurses := true, named := ["ringroad/index.none"], apart := false, laid := [("ringroad/index.none", laid_ringroad_index_none)] }
def BuildClosesSaid : Prop := buildClosesRow.holds Tryz.pinned (OpenSpec.ofChange buildClosesSpec)

/-- ITS FALSE NEIGHBOUR: 'it returns false'. Refute it at one input. -/
def buildClosesWrong : ChangeSpec := { name := "buildCloses", fn := fun _ => fun
  | [d1, d2, d3, d4] => { results := [.lit (.bool false)], args := [d1, d2, d3, d4] }
  | _ => none }
def BuildClosesWrongFalsely : Prop := buildClosesRow.holds Tryz.pinned (OpenSpec.ofChange buildClosesWrong)

/- THE SECOND FORM. 'bulk': how many values and letters a reading holds, each counted each time it is reached (what is shared counts as often as it is met; a slice's spare places count too). A statement '..UptoSaid' is the law's where the arguments, and the package variables that the reading takes, are together of bulk at most 1048576: NARROWER than '..Said'. Prove '..Said' where nothing that the law and all that it calls make is longer than what came in: it says more and counts as full. Else prove '..UptoSaid'. A law counts once. -/
mutual
def uptoBulk {H : Type} : DataW H → Nat
  | .lit (.string bytes) => bytes.length + 1
  | .lit _ => 1
  | .nil => 1
  | .ptr d => uptoBulk d + 1
  | .slice elems spare => uptoBulkAll elems + uptoBulkAll spare + 1
  | .agg parts => uptoBulkAll parts + 1
  | .iface _ d => uptoBulk d + 1
  | .map entries => uptoBulkEntries entries + 1
  | .held _ => 1
def uptoBulkAll {H : Type} : List (DataW H) → Nat
  | [] => 0
  | d :: r => uptoBulk d + uptoBulkAll r
def uptoBulkEntries {H : Type} : List (Lit × DataW H) → Nat
  | [] => 0
  | x :: r => uptoBulkEntry x + uptoBulkEntries r
def uptoBulkEntry {H : Type} : Lit × DataW H → Nat
  | (.string bytes, d) => bytes.length + uptoBulk d + 1
  | (_, d) => uptoBulk d + 1
 end
def uptoSmall : (H : Type) → List (DataW H) → Bool := fun _ ds => decide (uptoBulkAll ds ≤ 1048576)
def OpenSpec.upto (s : _root_.Go.ChangeSpec) : _root_.Go.OpenSpec := { _root_.Go.OpenSpec.ofChange s with cond := some uptoSmall }

/-- 'ringroadlaw20.ClimbDists', WHERE WHAT IT READS IS OF BULK AT MOST 1048576: true; the input reads as it did. -/
def climbDistsUptoRow : OpenClaim := { program := "ythnmomiglgomfaagreatdoor", sum := "b6265ca675f41b2cd9c610d8a3769eb36d8276442ae11bb0f9e4f3b05328932d", func := "ringroad/ringroadlaw20.ClimbDists", spec := "climbDists", inPlace := ["slices.overlaps[int]"], unfollowed := true, recurses := true, named := ["ringroad/index.none"], apart := false, laid := [("ringroad/index.none", laid_ringroad_index_none)], narrowed := true }
def ClimbDistsUptoSaid : Prop := climbDistsUptoRow.holds Tryz.pinned (OpenSpec.upto climbDistsSpec)

/-- 'ringroadlaw20.ClimbOrders', WHERE WHAT IT READS IS OF BULK AT MOST 1048576: true; the input reads as it did. -/
def climbOrdersUptoRow : OpenClaim := { program := "ythnmomiglgomfaagreatdoor", sum := "b6265ca675f41b2cd9c610d8a3769eb36d8276442ae11bb0f9e4f3b05328932d", func := "ringroad/ringroadlaw20.ClimbOrders", spec := "climbOrders", inPlace := ["slices.overlaps[int]"], unfollowed := true, recurses := true, named := ["ringroad/index.none"], apart := false, laid := [("ringroad/index.none", laid_ringroad_index_none)], narrowed := true }
def ClimbOrdersUptoSaid : Prop := climbOrdersUptoRow.holds Tryz.pinned (OpenSpec.upto climbOrdersSpec)

/-- 'ringroadlaw20.ClimbEdges', WHERE WHAT IT READS IS OF BULK AT MOST 1048576: true; the input reads as it did. -/
def climbEdgesUptoRow : OpenClaim := { program := "ythnmomiglgomfaagreatdoor", sum := "b6265ca675f41b2cd9c610d8a3769eb36d8276442ae11bb0f9e4f3b05328932d", func := "ringroad/ringroadlaw20.ClimbEdges", spec := "climbEdges", inPlace := ["slices.overlaps[int]"], unfollowed := true, recurses := true, named := ["ringroad/index.none"], apart := false, laid := [("ringroad/index.none", laid_ringroad_index_none)], narrowed := true }
def ClimbEdgesUptoSaid : Prop := climbEdgesUptoRow.holds Tryz.pinned (OpenSpec.upto climbEdgesSpec)

/-- 'ringroadlaw20.ClimbMeets', WHERE WHAT IT READS IS OF BULK AT MOST 1048576: true; the input reads as it did. -/
def climbMeetsUptoRow : OpenClaim := { program := "ythnmomiglgomfaagreatdoor", sum := "b6265ca675f41b2cd9c610d8a3769eb36d8276442ae11bb0f9e4f3b05328932d", func := "ringroad/ringroadlaw20.ClimbMeets", spec := "climbMeets", inPlace := ["slices.overlaps[int]"], unfollowed := true, recurses := true, named := ["ringroad/index.none"], apart := false, laid := [("ringroad/index.none", laid_ringroad_index_none)], narrowed := true }
def ClimbMeetsUptoSaid : Prop := climbMeetsUptoRow.holds Tryz.pinned (OpenSpec.upto climbMeetsSpec)

/-- 'ringroadlaw16.BuildBetween', WHERE WHAT IT READS IS OF BULK AT MOST 1048576: true; the input reads as it did. -/
def buildBetweenUptoRow : OpenClaim := { program := "ythnmomiglgomfaagreatdoor", sum := "b6265ca675f41b2cd9c610d8a3769eb36d8276442ae11bb0f9e4f3b05328932d", func := "ringroad/ringroadlaw16.BuildBetween", spec := "buildBetween", inPlace := ["slices.overlaps[int]"], unfollowed := true, recurses := true, named := ["ringroad/index.none"], apart := false, laid := [("ringroad/index.none", laid_ringroad_index_none)], narrowed := true }
def BuildBetweenUptoSaid : Prop := buildBetweenUptoRow.holds Tryz.pinned (OpenSpec.upto buildBetweenSpec)

/-- 'ringroadlaw16.BuildSets', WHERE WHAT IT READS IS OF BULK AT MOST 1048576: true; the input reads as it did. -/
def buildSetsUptoRow : OpenClaim := { program := "ythnmomiglgomfaagreatdoor", sum := "b6265ca675f41b2cd9c610d8a3769eb36d8276442ae11bb0f9e4f3b05328932d", func := "ringroad/ringroadlaw16.BuildSets", spec := "buildSets", inPlace := ["slices.overlaps[int]"], unfollowed := true, recurses := true, named := ["ringroad/index.none"], apart := false, laid := [("ringroad/index.none", laid_ringroad_index_none)], narrowed := true }
def BuildSetsUptoSaid : Prop := buildSetsUptoRow.holds Tryz.pinned (OpenSpec.upto buildSetsSpec)

/-- 'ringroadlaw16.BuildUps', WHERE WHAT IT READS IS OF BULK AT MOST 1048576: true; the input reads as it did. -/
def buildUpsUptoRow : OpenClaim := { program := "ythnmomiglgomfaagreatdoor", sum := "b6265ca675f41b2cd9c610d8a3769eb36d8276442ae11bb0f9e4f3b05328932d", func := "ringroad/ringroadlaw16.BuildUps", spec := "buildUps", inPlace := ["slices.overlaps[int]"], unfollowed := true, recurses := true, named := ["ringroad/index.none"], apart := false, laid := [("ringroad/index.none", laid_ringroad_index_none)], narrowed := true }
def BuildUpsUptoSaid : Prop := buildUpsUptoRow.holds Tryz.pinned (OpenSpec.upto buildUpsSpec)

/-- 'ringroadlaw16.BuildWhole', WHERE WHAT IT READS IS OF BULK AT MOST 1048576: true; the input reads as it did. -/
def buildWholeUptoRow : OpenClaim := { program := "ythnmomiglgomfaagreatdoor", sum := "b6265ca675f41b2cd9c610d8a3769eb36d8276442ae11bb0f9e4f3b05328932d", func := "ringroad/ringroadlaw16.BuildWhole", spec := "buildWhole", inPlace := ["slices.overlaps[int]"], unfollowed := true, recurses := true, named := ["ringroad/index.none"], apart := false, laid := [("ringroad/index.none", laid_ringroad_index_none)], narrowed := true }
def BuildWholeUptoSaid : Prop := buildWholeUptoRow.holds Tryz.pinned (OpenSpec.upto buildWholeSpec)

/-- 'ringroadlaw16.BuildMiddles', WHERE WHAT IT READS IS OF BULK AT MOST 1048576: true; the input reads as it did. -/
def buildMiddlesUptoRow : OpenClaim := { program := "ythnmomiglgomfaagreatdoor", sum := "b6265ca675f41b2cd9c610d8a3769eb36d8276442ae11bb0f9e4f3b05328932d", func := "ringroad/ringroadlaw16.BuildMiddles", spec := "buildMiddles", inPlace := ["slices.overlaps[int]"], unfollowed := true, recurses := true, named := ["ringroad/index.none"], apart := false, laid := [("ringroad/index.none", laid_ringroad_index_none)], narrowed := true }
def BuildMiddlesUptoSaid : Prop := buildMiddlesUptoRow.holds Tryz.pinned (OpenSpec.upto buildMiddlesSpec)

/-- 'ringroadlaw16.BuildTells', WHERE WHAT IT READS IS OF BULK AT MOST 1048576: true; the input reads as it did. -/
def buildTellsUptoRow : OpenClaim := { program := "ythnmomiglgomfaagreatdoor", sum := "b6265ca675f41b2cd9c610d8a3769eb36d8276442ae11bb0f9e4f3b05328932d", func := "ringroad/ringroadlaw16.BuildTells", spec := "buildTells", inPlace := ["slices.overlaps[int]"], unfollowed := true, recurses := true, named := ["ringroad/index.none"], apart := false, laid := [("ringroad/index.none", laid_ringroad_index_none)], narrowed := true }
def BuildTellsUptoSaid : Prop := buildTellsUptoRow.holds Tryz.pinned (OpenSpec.upto buildTellsSpec)

/-- 'ringroadlaw16.BuildCloses', WHERE WHAT IT READS IS OF BULK AT MOST 1048576: true; the input reads as it did. -/
def buildClosesUptoRow : OpenClaim := { program := "ythnmomiglgomfaagreatdoor", sum := "b6265ca675f41b2cd9c610d8a3769eb36d8276442ae11bb0f9e4f3b05328932d", func := "ringroad/ringroadlaw16.BuildCloses", spec := "buildCloses", inPlace := ["slices.overlaps[int]"], unfollowed := true, recurses := true, named := ["ringroad/index.none"], apart := false, laid := [("ringroad/index.none", laid_ringroad_index_none)], narrowed := true }
def BuildClosesUptoSaid : Prop := buildClosesUptoRow.holds Tryz.pinned (OpenSpec.upto buildClosesSpec)

end Rows
end Go.Proofs.YthnmomiglgomfaaGreatDoor

/-
  NARROWER THAN 'FOR EVERY INPUT', by the rows' own cells (each row's printed sentence says how): BuildTells: laid · BuildUps: laid · ClimbDists: laid · ClimbOrders: laid · ClimbEdges: laid · ClimbMeets: laid · BypassTells: laid · BypassGround: laid · BypassExact: laid · BypassPaths: laid · BypassFloors: laid.
  DERIVED. THE GIVEN ROWS OF THIS SEAT. 11 by the template 'for every input the law returns true; each argument reads behind the call as it read before'; 0 by the template 'total and deterministic' (their statements: YtpkocidcfnlbiaaGreatDoorTotals.lean).
  GIVEN WITH THE SEED: the statements are not yours to turn. If you find one false, say at which input.
  Laid BY PROGRAM, IN A SANDBOX (cutbox-rows.mjs): the forced cells as the released guide's own fill.sh prints them over the translation 372bf2f3ad38f553… (all of the seat's roots in one cut). By AI agents, Wed Nov 11 2026. No macro, syntax, notation, axiom, sorry.
-/
import Derived.Test.YtpkocidcfnlbiaaGreatDoorChecked
import GoSem.Claim
import GoSem.ClaimJoined
import GoSem.ClaimMapViews
import Derived.JoinedTies
import Derived.KernelRfl
namespace Go.Proofs.YtpkocidcfnlbiaaGreatDoor
/- THE CELL 'sum', in the pinned program and in every row, IS THE sha256 OF THE DUMP (.gsa) THAT YtpkocidcfnlbiaaGreatDoorProg.lean LOADS. Nothing in Lean hashes anything: it is a label: what it is worth is what the hold of that sum in a sandbox is worth. -/
noncomputable def Tryz.pinned : Pinned := { name := "ytpkocidcfnlbiaagreatdoor", sum := "372bf2f3ad38f55395bfadee0eed218137d957901d5e6c9ed581950ec8f8c7ae", checked := Tryz.checked }
namespace Rows
def none {H : Type} : Left H := { results := [], args := [] }

/- WHAT THE LISTED PACKAGE-LEVEL VARIABLES READ AS WHEN THE CALL BEGINS. Each datum BY PROGRAM (the guide's laid-datum.mjs) off the statement by which the dump's own 'gosem.cut.vars' lays the variable. In a bare row this is a premise. The card (YtpkocidcfnlbiaaGreatDoorCards.lean) ties it to the program's text. -/
def laid_ringroad_index_none {H : Type} : DataW H := .agg [.lit (.int .i64 4611686018427387906), .lit (.int .i64 (-1)), .lit (.int .i64 (-1))]

/-- 'ringroadlaw16.BuildTells': WHATEVER THE INPUT: true; the input reads as it did. -/
def buildTellsSpec : ChangeSpec := { name := "buildTells", fn := fun _ => fun
  | [d1, d2, d3] => { results := [.lit (.bool true)], args := [d1, d2, d3] }
  | _ => none }
def buildTellsRow : OpenClaim := { program := "ytpkocidcfnlbiaagreatdoor", sum := "372bf2f3ad38f55395bfadee0eed218137d957901d5e6c9ed581950ec8f8c7ae", func := "ringroad/ringroadlaw16.BuildTells", spec := "buildTells", inPlace := ["slices.overlaps[int]"], unfollowed := true, recurses := true, named := ["ringroad/index.none"], apart := false, laid := [("ringroad/index.none", laid_ringroad_index_none)] }
def BuildTellsSaid : Prop := buildTellsRow.holds Tryz.pinned (OpenSpec.ofChange buildTellsSpec)

/-- ITS FALSE NEIGHBOUR: 'it returns false'. Refute it at one input. -/
def buildTellsWrong : ChangeSpec := { name := "buildTells", fn := fun _ => fun
  | [d1, d2, d3] => { results := [.lit (.bool false)], args := [d1, d2, d3] }
  | _ => none }
def BuildTellsWrongFalsely : Prop := buildTellsRow.holds Tryz.pinned (OpenSpec.ofChange buildTellsWrong)

/-- 'ringroadlaw16.BuildUps': WHATEVER THE INPUT: true; the input reads as it did. -/
def buildUpsSpec : ChangeSpec := { name := "buildUps", fn := fun _ => fun
  | [d1, d2, d3] => { results := [.lit (.bool true)], args := [d1, d2, d3] }
  | _ => none }
def buildUpsRow : OpenClaim := { program := "ytpkocidcfnlbiaagreatdoor", sum := "372bf2f3ad38f55395bfadee0eed218137d957901d5e6c9ed581950ec8f8c7ae", func := "ringroad/ringroadlaw16.BuildUps", spec := "buildUps", inPlace := ["slices.overlaps[int]"], unfollowed := true, recurses := true, named := ["ringroad/index.none"], apart := false, laid := [("ringroad/index.none", laid_ringroad_index_none)] }
def BuildUpsSaid : Prop := buildUpsRow.holds Tryz.pinned (OpenSpec.ofChange buildUpsSpec)

/-- ITS FALSE NEIGHBOUR: 'it returns false'. Refute it at one input. -/
def buildUpsWrong : ChangeSpec := { name := "buildUps", fn := fun _ => fun
  | [d1, d2, d3] => { results := [.lit (.bool false)], args := [d1, d2, d3] }
  | _ => none }
def BuildUpsWrongFalsely : Prop := buildUpsRow.holds Tryz.pinned (OpenSpec.ofChange buildUpsWrong)

/-- 'ringroadlaw20.ClimbDists': WHATEVER THE INPUT: true; the input reads as it did. -/
def climbDistsSpec : ChangeSpec := { name := "climbDists", fn := fun _ => fun
  | [d1, d2, d3] => { results := [.lit (.bool true)], args := [d1, d2, d3] }
  | _ => none }
def climbDistsRow : OpenClaim := { program := "ytpkocidcfnlbiaagreatdoor", sum := "372bf2f3ad38f55395bfadee0eed218137d957901d5e6c9ed581950ec8f8c7ae", func := "ringroad/ringroadlaw20.ClimbDists", spec := "climbDists", inPlace := ["slices.overlaps[int]"], unfollowed := true, recurses := true, named := ["ringroad/index.none"], apart := false, laid := [("ringroad/index.none", laid_ringroad_index_none)] }
def ClimbDistsSaid : Prop := climbDistsRow.holds Tryz.pinned (OpenSpec.ofChange climbDistsSpec)

/-- ITS FALSE NEIGHBOUR: 'it returns false'. Refute it at one input. -/
def climbDistsWrong : ChangeSpec := { name := "climbDists", fn := fun _ => fun
  | [d1, d2, d3] => { results := [.lit (.bool false)], args := [d1, d2, d3] }
  | _ => none }
def ClimbDistsWrongFalsely : Prop := climbDistsRow.holds Tryz.pinned (OpenSpec.ofChange climbDistsWrong)

/-- 'ringroadlaw20.ClimbOrders': WHATEVER THE INPUT: true; the input reads as it did. -/
def climbOrdersSpec : ChangeSpec := { name := "climbOrders", fn := fun _ => fun
  | [d1, d2, d3, d4] => { results := [.lit (.bool true)], args := [d1, d2, d3, d4] }
  | _ => none }
def climbOrdersRow : OpenClaim := { program := "ytpkocidcfnlbiaagreatdoor", sum := "372bf2f3ad38f55395bfadee0eed218137d957901d5e6c9ed581950ec8f8c7ae", func := "ringroad/ringroadlaw20.ClimbOrders", spec := "climbOrders", inPlace := ["slices.overlaps[int]"], unfollowed := true, recurses := true, named := ["ringroad/index.none"], apart := false, laid := [("ringroad/index.none", laid_ringroad_index_none)] }
def ClimbOrdersSaid : Prop := climbOrdersRow.holds Tryz.pinned (OpenSpec.ofChange climbOrdersSpec)

/-- ITS FALSE NEIGHBOUR: 'it returns false'. Refute it at one input. -/
def climbOrdersWrong : ChangeSpec := { name := "climbOrders", fn := fun _ => fun
  | [d1, d2, d3, d4] => { results := [.lit (.bool false)], args := [d1, d2, d3, d4] }
  | _ => none }
def ClimbOrdersWrongFalsely : Prop := climbOrdersRow.holds Tryz.pinned (OpenSpec.ofChange climbOrdersWrong)

/-- 'ringroadlaw20.ClimbEdges': WHATEVER THE INPUT: true; the input reads as it did. -/
def climbEdgesSpec : ChangeSpec := { name := "climbEdges", fn := fun _ => fun
  | [d1, d2, d3, d4] => { results := [.lit (.bool true)], args := [d1, d2, d3, d4] }
  | _ => none }
def climbEdgesRow : OpenClaim := { program := "ytpkocidcfnlbiaagreatdoor", sum := "372bf2f3ad38f55395bfadee0eed218137d957901d5e6c9ed581950ec8f8c7ae", func := "ringroad/ringroadlaw20.ClimbEdges", spec := "climbEdges", inPlace := ["slices.overlaps[int]"], unfollowed := true, recurses := true, named := ["ringroad/index.none"], apart := false, laid := [("ringroad/index.none", laid_ringroad_index_none)] }
def ClimbEdgesSaid : Prop := climbEdgesRow.holds Tryz.pinned (OpenSpec.ofChange climbEdgesSpec)

/-- ITS FALSE NEIGHBOUR: 'it returns false'. Refute it at one input. -/
def climbEdgesWrong : ChangeSpec := { name := "climbEdges", fn := fun _ => fun
  | [d1, d2, d3, d4] => { results := [.lit (.bool false)], args := [d1, d2, d3, d4] }
  | _ => none }
def ClimbEdgesWrongFalsely : Prop := climbEdgesRow.holds Tryz.pinned (OpenSpec.ofChange climbEdgesWrong)

/-- 'ringroadlaw20.ClimbMeets': WHATEVER THE INPUT: true; the input reads as it did. -/
def climbMeetsSpec : ChangeSpec := { name := "climbMeets", fn := fun _ => fun
  | [d1, d2, d3, d4, d5] => { results := [.lit (.bool true)], args := [d1, d2, d3, d4, d5] }
  | _ => none }
def climbMeetsRow : OpenClaim := { program := "ytpkocidcfnlbiaagreatdoor", sum := "372bf2f3ad38f55395bfadee0eed218137d957901d5e6c9ed581950ec8f8c7ae", func := "ringroad/ringroadlaw20.ClimbMeets", spec := "climbMeets", inPlace := ["slices.overlaps[int]"], unfollowed := true, recurses := true, named := ["ringroad/index.none"], apart := false, laid := [("ringroad/index.none", laid_ringroad_index_none)] }
def ClimbMeetsSaid : Prop := climbMeetsRow.holds Tryz.pinned (OpenSpec.ofChange climbMeetsSpec)

/-- ITS FALSE NEIGHBOUR: 'it returns false'. Refute it at one input. -/
def climbMeetsWrong : ChangeSpec := { name := "climbMeets", fn := fun _ => fun
  | [d1, d2, d3, d4, d5] => { results := [.lit (.bool false)], args := [d1, d2, d3, d4, d5] }
  | _ => none }
def ClimbMeetsWrongFalsely : Prop := climbMeetsRow.holds Tryz.pinned (OpenSpec.ofChange climbMeetsWrong)

/-- 'ringroadlaw22.BypassTells': WHATEVER THE INPUT: true; the input reads as it did. -/
def bypassTellsSpec : ChangeSpec := { name := "bypassTells", fn := fun _ => fun
  | [d1, d2, d3, d4, d5, d6, d7] => { results := [.lit (.bool true)], args := [d1, d2, d3, d4, d5, d6, d7] }
  | _ => none }
def bypassTellsRow : OpenClaim := { program := "ytpkocidcfnlbiaagreatdoor", sum := "372bf2f3ad38f55395bfadee0eed218137d957901d5e6c9ed581950ec8f8c7ae", func := "ringroad/ringroadlaw22.BypassTells", spec := "bypassTells", inPlace := ["slices.overlaps[int]"], unfollowed := true, recurses := true, named := ["ringroad/index.none"], apart := false, laid := [("ringroad/index.none", laid_ringroad_index_none)] }
def BypassTellsSaid : Prop := bypassTellsRow.holds Tryz.pinned (OpenSpec.ofChange bypassTellsSpec)

/-- ITS FALSE NEIGHBOUR: 'it returns false'. Refute it at one input. -/
def bypassTellsWrong : ChangeSpec := { name := "bypassTells", fn := fun _ => fun
  | [d1, d2, d3, d4, d5, d6, d7] => { results := [.lit (.bool false)], args := [d1, d2, d3, d4, d5, d6, d7] }
  | _ => none }
def BypassTellsWrongFalsely : Prop := bypassTellsRow.holds Tryz.pinned (OpenSpec.ofChange bypassTellsWrong)

/-- 'ringroadlaw22.BypassGround': WHATEVER THE INPUT: true; the input reads as it did. -/
def bypassGroundSpec : ChangeSpec := { name := "bypassGround", fn := fun _ => fun
  | [d1, d2, d3, d4, d5, d6] => { results := [.lit (.bool true)], args := [d1, d2, d3, d4, d5, d6] }
  | _ => none }
def bypassGroundRow : OpenClaim := { program := "ytpkocidcfnlbiaagreatdoor", sum := "372bf2f3ad38f55395bfadee0eed218137d957901d5e6c9ed581950ec8f8c7ae", func := "ringroad/ringroadlaw22.BypassGround", spec := "bypassGround", inPlace := ["slices.overlaps[int]"], unfollowed := true, recurses := true, named := ["ringroad/index.none"], apart := false, laid := [("ringroad/index.none", laid_ringroad_index_none)] }
def BypassGroundSaid : Prop := bypassGroundRow.holds Tryz.pinned (OpenSpec.ofChange bypassGroundSpec)

/-- ITS FALSE NEIGHBOUR: 'it returns false'. Refute it at one input. -/
def bypassGroundWrong : ChangeSpec := { name := "bypassGround", fn := fun _ => fun
  | [d1, d2, d3, d4, d5, d6] => { results := [.lit (.bool false)], args := [d1, d2, d3, d4, d5, d6] }
  | _ => none }
def BypassGroundWrongFalsely : Prop := bypassGroundRow.holds Tryz.pinned (OpenSpec.ofChange bypassGroundWrong)

/-- 'ringroadlaw22.BypassExact': WHATEVER THE INPUT: true; the input reads as it did. -/
def bypassExactSpec : ChangeSpec := { name := "bypassExact", fn := fun _ => fun
  | [d1, d2, d3, d4, d5] => { results := [.lit (.bool true)], args := [d1, d2, d3, d4, d5] }
  | _ => none }
def bypassExactRow : OpenClaim := { program := "ytpkocidcfnlbiaagreatdoor", sum := "372bf2f3ad38f55395bfadee0eed218137d957901d5e6c9ed581950ec8f8c7ae", func := "ringroad/ringroadlaw22.BypassExact", spec := "bypassExact", inPlace := ["slices.overlaps[int]"], unfollowed := true, recurses := true, named := ["ringroad/index.none"], apart := false, laid := [("ringroad/index.none", laid_ringroad_index_none)] }
def BypassExactSaid : Prop := bypassExactRow.holds Tryz.pinned (OpenSpec.ofChange bypassExactSpec)

/-- ITS FALSE NEIGHBOUR: 'it returns false'. Refute it at one input. -/
def bypassExactWrong : ChangeSpec := { name := "bypassExact", fn := fun _ => fun
  | [d1, d2, d3, d4, d5] => { results := [.lit (.bool false)], args := [d1, d2, d3, d4, d5] }
  | _ => none }
def BypassExactWrongFalsely : Prop := bypassExactRow.holds Tryz.pinned (OpenSpec.ofChange bypassExactWrong)

/-- 'ringroadlaw22.BypassPaths': WHATEVER THE INPUT: true; the input reads as it did. -/
def bypassPathsSpec : ChangeSpec := { name := "bypassPaths", fn := fun _ => fun
  | [d1, d2, d3, d4, d5, d6, d7] => { results := [.lit (.bool true)], args := [d1, d2, d3, d4, d5, d6, d7] }
  | _ => none }
def bypassPathsRow : OpenClaim := { program := "ytpkocidcfnlbiaagreatdoor", sum := "372bf2f3ad38f55395bfadee0eed218137d957901d5e6c9ed581950ec8f8c7ae", func := "ringroad/ringroadlaw22.BypassPaths", spec := "bypassPaths", inPlace := ["slices.overlaps[int]"], unfollowed := true, recurses := true, named := ["ringroad/index.none"], apart := false, laid := [("ringroad/index.none", laid_ringroad_index_none)] }
def BypassPathsSaid : Prop := bypassPathsRow.holds Tryz.pinned (OpenSpec.ofChange bypassPathsSpec)

/-- ITS FALSE NEIGHBOUR: 'it returns false'. Refute it at one input. -/
def bypassPathsWrong : ChangeSpec := { name := "bypassPaths", fn := fun _ => fun
  | [d1, d2, d3, d4, d5, d6, d7] => { results := [.lit (.bool false)], args := [d1, d2, d3, d4, d5, d6, d7] }
  | _ => none }
def BypassPathsWrongFalsely : Prop := bypassPathsRow.holds Tryz.pinned (OpenSpec.ofChange bypassPathsWrong)

/-- 'ringroadlaw22.BypassFloors': WHATEVER THE INPUT: true; the input reads as it did. -/
def bypassFloorsSpec : ChangeSpec := { name := "bypassFloors", fn := fun _ => fun
  | [d1, d2, d3, d4, d5, d6, d7] => { results := [.lit (.bool true)], args := [d1, d2, d3, d4, d5, d6, d7] }
  | _ => none }
def bypassFloorsRow : OpenClaim := { program := "ytpkocidcfnlbiaagreatdoor", sum := "372bf2f3ad38f55395bfadee0eed218137d957901d5e6c9ed581950ec8f8c7ae", func := "ringroad/ringroadlaw22.BypassFloors", spec := "bypassFloors", inPlace := ["slices.overlaps[int]"], unfollowed := true, recurses := true, named := ["ringroad/index.none"], apart := false, laid := [("ringroad/index.none", laid_ringroad_index_none)] }
def BypassFloorsSaid : Prop := bypassFloorsRow.holds Tryz.pinned (OpenSpec.ofChange bypassFloorsSpec)

/-- ITS FALSE NEIGHBOUR: 'it returns false'. Refute it at one input. -/
def bypassFloorsWrong : ChangeSpec := { name := "bypassFloors", fn := fun _ => fun
  | [d1, d2, d3, d4, d5, d6, d7] => { results := [.lit (.bool false)], args := [d1, d2, d3, d4, d5, d6, d7] }
  | _ => none }
def BypassFloorsWrongFalsely : Prop := bypassFloorsRow.holds Tryz.pinned (OpenSpec.ofChange bypassFloorsWrong)

/- THE SECOND FORM. 'bulk': how many values and letters a reading holds, each counted each time it is reached (what is shared counts as often as it is met; a slice's spare places count too). A statement '..UptoSaid' is the law's where the arguments, and the package variables that the reading takes, are together of bulk at most 1048576: NARROWER than '..Said'. Prove '..Said' where nothing that the law and all that it calls make is longer than what came in: it says more and counts as full. Else prove '..UptoSaid'. A law counts once. -/
mutual
def uptoBulk {H : Type} : DataW H → Nat
  | .lit (.string bytes) => bytes.length + 1
  | .lit _ => 1
  | .nil => 1
  | .ptr d => uptoBulk d + 1
  | .slice elems spare => uptoBulkAll elems + uptoBulkAll spare + 1
  | .agg parts => uptoBulkAll parts + 1
  | .iface _ d => uptoBulk d + 1
  | .map entries => uptoBulkEntries entries + 1
  | .held _ => 1
def uptoBulkAll {H : Type} : List (DataW H) → Nat
  | [] => 0
  | d :: r => uptoBulk d + uptoBulkAll r
def uptoBulkEntries {H : Type} : List (Lit × DataW H) → Nat
  | [] => 0
  | x :: r => uptoBulkEntry x + uptoBulkEntries r
def uptoBulkEntry {H : Type} : Lit × DataW H → Nat
  | (.string bytes, d) => bytes.length + uptoBulk d + 1
  | (_, d) => uptoBulk d + 1
 end
def uptoSmall : (H : Type) → List (DataW H) → Bool := fun _ ds => decide (uptoBulkAll ds ≤ 1048576)
def OpenSpec.upto (s : _root_.Go.ChangeSpec) : _root_.Go.OpenSpec := { _root_.Go.OpenSpec.ofChange s with cond := some uptoSmall }

/-- 'ringroadlaw16.BuildTells', WHERE WHAT IT READS IS OF BULK AT MOST 1048576: true; the input reads as it did. -/
def buildTellsUptoRow : OpenClaim := { program := "ytpkocidcfnlbiaagreatdoor", sum := "372bf2f3ad38f55395bfadee0eed218137d957901d5e6c9ed581950ec8f8c7ae", func := "ringroad/ringroadlaw16.BuildTells", spec := "buildTells", inPlace := ["slices.overlaps[int]"], unfollowed := true, recurses := true, named := ["ringroad/index.none"], apart := false, laid := [("ringroad/index.none", laid_ringroad_index_none)], narrowed := true }
def BuildTellsUptoSaid : Prop := buildTellsUptoRow.holds Tryz.pinned (OpenSpec.upto buildTellsSpec)

/-- 'ringroadlaw16.BuildUps', WHERE WHAT IT READS IS OF BULK AT MOST 1048576: true; the input reads as it did. -/
def buildUpsUptoRow : OpenClaim := { program := "ytpkocidcfnlbiaagreatdoor", sum := "372bf2f3ad38f55395bfadee0eed218137d957901d5e6c9ed581950ec8f8c7ae", func := "ringroad/ringroadlaw16.BuildUps", spec := "buildUps", inPlace := ["slices.overlaps[int]"], unfollowed := true, recurses := true, named := ["ringroad/index.none"], apart := false, laid := [("ringroad/index.none", laid_ringroad_index_none)], narrowed := true }
def BuildUpsUptoSaid : Prop := buildUpsUptoRow.holds Tryz.pinned (OpenSpec.upto buildUpsSpec)

/-- 'ringroadlaw20.ClimbDists', WHERE WHAT IT READS IS OF BULK AT MOST 1048576: true; the input reads as it did. -/
def climbDistsUptoRow : OpenClaim := { program := "ytpkocidcfnlbiaagreatdoor", sum := "372bf2f3ad38f55395bfadee0eed218137d957901d5e6c9ed581950ec8f8c7ae", func := "ringroad/ringroadlaw20.ClimbDists", spec := "climbDists", inPlace := ["slices.overlaps[int]"], unfollowed := true, recurses := true, named := ["ringroad/index.none"], apart := false, laid := [("ringroad/index.none", laid_ringroad_index_none)], narrowed := true }
def ClimbDistsUptoSaid : Prop := climbDistsUptoRow.holds Tryz.pinned (OpenSpec.upto climbDistsSpec)

/-- 'ringroadlaw20.ClimbOrders', WHERE WHAT IT READS IS OF BULK AT MOST 1048576: true; the input reads as it did. -/
def climbOrdersUptoRow : OpenClaim := { program := "ytpkocidcfnlbiaagreatdoor", sum := "372bf2f3ad38f55395bfadee0eed218137d957901d5e6c9ed581950ec8f8c7ae", func := "ringroad/ringroadlaw20.ClimbOrders", spec := "climbOrders", inPlace := ["slices.overlaps[int]"], unfollowed := true, recurses := true, named := ["ringroad/index.none"], apart := false, laid := [("ringroad/index.none", laid_ringroad_index_none)], narrowed := true }
def ClimbOrdersUptoSaid : Prop := climbOrdersUptoRow.holds Tryz.pinned (OpenSpec.upto climbOrdersSpec)

/-- 'ringroadlaw20.ClimbEdges', WHERE WHAT IT READS IS OF BULK AT MOST 1048576: true; the input reads as it did. -/
def climbEdgesUptoRow : OpenClaim := { program := "ytpkocidcfnlbiaagreatdoor", sum := "372bf2f3ad38f55395bfadee0eed218137d957901d5e6c9ed581950ec8f8c7ae", func := "ringroad/ringroadlaw20.ClimbEdges", spec := "climbEdges", inPlace := ["slices.overlaps[int]"], unfollowed := true, recurses := true, named := ["ringroad/index.none"], apart := false, laid := [("ringroad/index.none", laid_ringroad_index_none)], narrowed := true }
def ClimbEdgesUptoSaid : Prop := climbEdgesUptoRow.holds Tryz.pinned (OpenSpec.upto climbEdgesSpec)

/-- 'ringroadlaw20.ClimbMeets', WHERE WHAT IT READS IS OF BULK AT MOST 1048576: true; the input reads as it did. -/
def climbMeetsUptoRow : OpenClaim := { program := "ytpkocidcfnlbiaagreatdoor", sum := "372bf2f3ad38f55395bfadee0eed218137d957901d5e6c9ed581950ec8f8c7ae", func := "ringroad/ringroadlaw20.ClimbMeets", spec := "climbMeets", inPlace := ["slices.overlaps[int]"], unfollowed := true, recurses := true, named := ["ringroad/index.none"], apart := false, laid := [("ringroad/index.none", laid_ringroad_index_none)], narrowed := true }
def ClimbMeetsUptoSaid : Prop := climbMeetsUptoRow.holds Tryz.pinned (OpenSpec.upto climbMeetsSpec)

/-- 'ringroadlaw22.BypassTells', WHERE WHAT IT READS IS OF BULK AT MOST 1048576: true; the input reads as it did. -/
def bypassTellsUptoRow : OpenClaim := { program := "ytpkocidcfnlbiaagreatdoor", sum := "372bf2f3ad38f55395bfadee0eed218137d957901d5e6c9ed581950ec8f8c7ae", func := "ringroad/ringroadlaw22.BypassTells", spec := "bypassTells", inPlace := ["slices.overlaps[int]"], unfollowed := true, recurses := true, named := ["ringroad/index.none"], apart := false, laid := [("ringroad/index.none", laid_ringroad_index_none)], narrowed := true }
def BypassTellsUptoSaid : Prop := bypassTellsUptoRow.holds Tryz.pinned (OpenSpec.upto bypassTellsSpec)

/-- 'ringroadlaw22.BypassGround', WHERE WHAT IT READS IS OF BULK AT MOST 1048576: true; the input reads as it did. -/
def bypassGroundUptoRow : OpenClaim := { program := "ytpkocidcfnlbiaagreatdoor", sum := "372bf2f3ad38f55395bfadee0eed218137d957901d5e6c9ed581950ec8f8c7ae", func := "ringroad/ringroadlaw22.BypassGround", spec := "bypassGround", inPlace := ["slices.overlaps[int]"], unfollowed := true, recurses := true, named := ["ringroad/index.none"], apart := false, laid := [("ringroad/index.none", laid_ringroad_index_none)], narrowed := true }
def BypassGroundUptoSaid : Prop := bypassGroundUptoRow.holds Tryz.pinned (OpenSpec.upto bypassGroundSpec)

/-- 'ringroadlaw22.BypassExact', WHERE WHAT IT READS IS OF BULK AT MOST 1048576: true; the input reads as it did. -/
def bypassExactUptoRow : OpenClaim := { program := "ytpkocidcfnlbiaagreatdoor", sum := "372bf2f3ad38f55395bfadee0eed218137d957901d5e6c9ed581950ec8f8c7ae", func := "ringroad/ringroadlaw22.BypassExact", spec := "bypassExact", inPlace := ["slices.overlaps[int]"], unfollowed := true, recurses := true, named := ["ringroad/index.none"], apart := false, laid := [("ringroad/index.none", laid_ringroad_index_none)], narrowed := true }
def BypassExactUptoSaid : Prop := bypassExactUptoRow.holds Tryz.pinned (OpenSpec.upto bypassExactSpec)

/-- 'ringroadlaw22.BypassPaths', WHERE WHAT IT READS IS OF BULK AT MOST 1048576: true; the input reads as it did. -/
def bypassPathsUptoRow : OpenClaim := { program := "ytpkocidcfnlbiaagreatdoor", sum := "372bf2f3ad38f55395bfadee0eed218137d957901d5e6c9ed581950ec8f8c7ae", func := "ringroad/ringroadlaw22.BypassPaths", spec := "bypassPaths", inPlace := ["slices.overlaps[int]"], unfollowed := true, recurses := true, named := ["ringroad/index.none"], apart := false, laid := [("ringroad/index.none", laid_ringroad_index_none)], narrowed := true }
def BypassPathsUptoSaid : Prop := bypassPathsUptoRow.holds Tryz.pinned (OpenSpec.upto bypassPathsSpec)

/-- 'ringroadlaw22.BypassFloors', WHERE WHAT IT READS IS OF BULK AT MOST 1048576: true; the input reads as it did. -/
def bypassFloorsUptoRow : OpenClaim := { program := "ytpkocidcfnlbiaagreatdoor", sum := "372bf2f3ad38f55395bfadee0eed218137d957901d5e6c9ed581950ec8f8c7ae", func := "ringroad/ringroadlaw22.BypassFloors", spec := "bypassFloors", inPlace := ["slices.overlaps[int]"], unfollowed := true, recurses := true, named := ["ringroad/index.none"], apart := false, laid := [("ringroad/index.none", laid_ringroad_index_none)], narrowed := true }
def BypassFloorsUptoSaid : Prop := bypassFloorsUptoRow.holds Tryz.pinned (OpenSpec.upto bypassFloorsSpec)

end Rows
end Go.Proofs.YtpkocidcfnlbiaaGreatDoor

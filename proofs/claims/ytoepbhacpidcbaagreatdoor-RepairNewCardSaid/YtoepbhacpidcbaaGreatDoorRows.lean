/-
  NARROWER THAN 'FOR EVERY INPUT', by the rows' own cells (each row's printed sentence says how): BypassTells: laid · BypassGround: laid · RepairPlays: laid · RepairRight: laid · RepairDrains: laid · RepairBudgets: laid · RepairBack: laid · RepairNew: laid · BypassExact: laid · BypassPaths: laid · BypassFloors: laid.
  DERIVED. THE GIVEN ROWS OF THIS SEAT. 11 by the template 'for every input the law returns true; each argument reads behind the call as it read before'; 0 by the template 'total and deterministic' (their statements: YtoepbhacpidcbaaGreatDoorTotals.lean).
  GIVEN WITH THE SEED: the statements are not yours to turn. If you find one false, say at which input.
  Laid BY PROGRAM, IN A SANDBOX (cutbox-rows.mjs): the forced cells as the released guide's own fill.sh prints them over the translation 7d1a5aa119f91f94… (all of the seat's roots in one cut). By AI agents, Wed Nov 11 2026. No macro, syntax, notation, axiom, sorry.
-/
import Derived.Test.YtoepbhacpidcbaaGreatDoorChecked
import GoSem.Claim
import GoSem.ClaimJoined
import GoSem.ClaimMapViews
import Derived.JoinedTies
import Derived.KernelRfl
namespace Go.Proofs.YtoepbhacpidcbaaGreatDoor
/- THE CELL 'sum', in the pinned program and in every row, IS THE sha256 OF THE DUMP (.gsa) THAT YtoepbhacpidcbaaGreatDoorProg.lean LOADS. Nothing in Lean hashes anything: it is a label: what it is worth is what the hold of that sum in a sandbox is worth. -/
noncomputable def Tryz.pinned : Pinned := { name := "ytoepbhacpidcbaagreatdoor", sum := "7d1a5aa119f91f94cb41a65e03eaecef378bfe7cba5d5c87979651acb948f39c", checked := Tryz.checked }
namespace Rows
def none {H : Type} : Left H := { results := [], args := [] }

/- WHAT THE LISTED PACKAGE-LEVEL VARIABLES READ AS WHEN THE CALL BEGINS. Each datum BY PROGRAM (the guide's laid-datum.mjs) off the statement by which the dump's own 'gosem.cut.vars' lays the variable. In a bare row this is a premise. The card (YtoepbhacpidcbaaGreatDoorCards.lean) ties it to the program's text. -/
def laid_ringroad_index_none {H : Type} : DataW H := .agg [.lit (.int .i64 4611686018427387906), .lit (.int .i64 (-1)), .lit (.int .i64 (-1))]
def laid_math_bits_deBruijn64tab {H : Type} : DataW H := .agg [.lit (.int .u8 0), .lit (.int .u8 1), .lit (.int .u8 56), .lit (.int .u8 2), .lit (.int .u8 57), .lit (.int .u8 49), .lit (.int .u8 28), .lit (.int .u8 3), .lit (.int .u8 61), .lit (.int .u8 58), .lit (.int .u8 42), .lit (.int .u8 50), .lit (.int .u8 38), .lit (.int .u8 29), .lit (.int .u8 17), .lit (.int .u8 4), .lit (.int .u8 62), .lit (.int .u8 47), .lit (.int .u8 59), .lit (.int .u8 36), .lit (.int .u8 45), .lit (.int .u8 43), .lit (.int .u8 51), .lit (.int .u8 22), .lit (.int .u8 53), .lit (.int .u8 39), .lit (.int .u8 33), .lit (.int .u8 30), .lit (.int .u8 24), .lit (.int .u8 18), .lit (.int .u8 12), .lit (.int .u8 5), .lit (.int .u8 63), .lit (.int .u8 55), .lit (.int .u8 48), .lit (.int .u8 27), .lit (.int .u8 60), .lit (.int .u8 41), .lit (.int .u8 37), .lit (.int .u8 16), .lit (.int .u8 46), .lit (.int .u8 35), .lit (.int .u8 44), .lit (.int .u8 21), .lit (.int .u8 52), .lit (.int .u8 32), .lit (.int .u8 23), .lit (.int .u8 11), .lit (.int .u8 54), .lit (.int .u8 26), .lit (.int .u8 40), .lit (.int .u8 15), .lit (.int .u8 34), .lit (.int .u8 20), .lit (.int .u8 31), .lit (.int .u8 10), .lit (.int .u8 25), .lit (.int .u8 14), .lit (.int .u8 19), .lit (.int .u8 9), .lit (.int .u8 13), .lit (.int .u8 8), .lit (.int .u8 7), .lit (.int .u8 6)]

/-- 'ringroadlaw22.BypassTells': WHATEVER THE INPUT: true; the input reads as it did. -/
def bypassTellsSpec : ChangeSpec := { name := "bypassTells", fn := fun _ => fun
  | [d1, d2, d3, d4, d5, d6, d7] => { results := [.lit (.bool true)], args := [d1, d2, d3, d4, d5, d6, d7] }
  | _ => none }
def bypassTellsRow : OpenClaim := { program := "ytoepbhacpidcbaagreatdoor", sum := "7d1a5aa119f91f94cb41a65e03eaecef378bfe7cba5d5c87979651acb948f39c", func := "ringroad/ringroadlaw22.BypassTells", spec := "bypassTells", inPlace := ["slices.overlaps[int]"], unfollowed := true, recurses := true, named := ["ringroad/index.none"], apart := false, laid := [("ringroad/index.none", laid_ringroad_index_none)] }
def BypassTellsSaid : Prop := bypassTellsRow.holds Tryz.pinned (OpenSpec.ofChange bypassTellsSpec)

/-- ITS FALSE NEIGHBOUR: 'it returns false'. Refute it at one input. -/
def bypassTellsWrong : ChangeSpec := { name := "bypassTells", fn := fun _ => fun
  | [d1, d2, d3, d4, d5, d6, d7] => { results := [.lit (.bool false)], args := [d1, d2, d3, d4, d5, d6, d7] }
  | _ => none }
def BypassTellsWrongFalsely : Prop := bypassTellsRow.holds Tryz.pinned (OpenSpec.ofChange bypassTellsWrong)

/-- 'ringroadlaw22.BypassGround': WHATEVER THE INPUT: true; the input reads as it did. -/
def bypassGroundSpec : ChangeSpec := { name := "bypassGround", fn := fun _ => fun
  | [d1, d2, d3, d4, d5, d6] => { results := [.lit (.bool true)], args := [d1, d2, d3, d4, d5, d6] }
  | _ => none }
def bypassGroundRow : OpenClaim := { program := "ytoepbhacpidcbaagreatdoor", sum := "7d1a5aa119f91f94cb41a65e03eaecef378bfe7cba5d5c87979651acb948f39c", func := "ringroad/ringroadlaw22.BypassGround", spec := "bypassGround", inPlace := ["slices.overlaps[int]"], unfollowed := true, recurses := true, named := ["ringroad/index.none"], apart := false, laid := [("ringroad/index.none", laid_ringroad_index_none)] }
def BypassGroundSaid : Prop := bypassGroundRow.holds Tryz.pinned (OpenSpec.ofChange bypassGroundSpec)

/-- ITS FALSE NEIGHBOUR: 'it returns false'. Refute it at one input. -/
def bypassGroundWrong : ChangeSpec := { name := "bypassGround", fn := fun _ => fun
  | [d1, d2, d3, d4, d5, d6] => { results := [.lit (.bool false)], args := [d1, d2, d3, d4, d5, d6] }
  | _ => none }
def BypassGroundWrongFalsely : Prop := bypassGroundRow.holds Tryz.pinned (OpenSpec.ofChange bypassGroundWrong)

/-- 'ringroadlaw19.RepairPlays': WHATEVER THE INPUT: true; the input reads as it did. -/
def repairPlaysSpec : ChangeSpec := { name := "repairPlays", fn := fun _ => fun
  | [d1, d2, d3] => { results := [.lit (.bool true)], args := [d1, d2, d3] }
  | _ => none }
def repairPlaysRow : OpenClaim := { program := "ytoepbhacpidcbaagreatdoor", sum := "7d1a5aa119f91f94cb41a65e03eaecef378bfe7cba5d5c87979651acb948f39c", func := "ringroad/ringroadlaw19.RepairPlays", spec := "repairPlays", inPlace := ["slices.overlaps[int]"], unfollowed := true, recurses := true, named := ["math/bits.deBruijn64tab", "ringroad/index.none"], apart := false, laid := [("math/bits.deBruijn64tab", laid_math_bits_deBruijn64tab), ("ringroad/index.none", laid_ringroad_index_none)] }
def RepairPlaysSaid : Prop := repairPlaysRow.holds Tryz.pinned (OpenSpec.ofChange repairPlaysSpec)

/-- ITS FALSE NEIGHBOUR: 'it returns false'. Refute it at one input. -/
def repairPlaysWrong : ChangeSpec := { name := "repairPlays", fn := fun _ => fun
  | [d1, d2, d3] => { results := [.lit (.bool false)], args := [d1, d2, d3] }
  | _ => none }
def RepairPlaysWrongFalsely : Prop := repairPlaysRow.holds Tryz.pinned (OpenSpec.ofChange repairPlaysWrong)

/-- 'ringroadlaw19.RepairRight': WHATEVER THE INPUT: true; the input reads as it did. -/
def repairRightSpec : ChangeSpec := { name := "repairRight", fn := fun _ => fun
  | [d1, d2, d3] => { results := [.lit (.bool true)], args := [d1, d2, d3] }
  | _ => none }
def repairRightRow : OpenClaim := { program := "ytoepbhacpidcbaagreatdoor", sum := "7d1a5aa119f91f94cb41a65e03eaecef378bfe7cba5d5c87979651acb948f39c", func := "ringroad/ringroadlaw19.RepairRight", spec := "repairRight", inPlace := ["slices.overlaps[int]"], unfollowed := true, recurses := true, named := ["math/bits.deBruijn64tab", "ringroad/index.none"], apart := false, laid := [("math/bits.deBruijn64tab", laid_math_bits_deBruijn64tab), ("ringroad/index.none", laid_ringroad_index_none)] }
def RepairRightSaid : Prop := repairRightRow.holds Tryz.pinned (OpenSpec.ofChange repairRightSpec)

/-- ITS FALSE NEIGHBOUR: 'it returns false'. Refute it at one input. -/
def repairRightWrong : ChangeSpec := { name := "repairRight", fn := fun _ => fun
  | [d1, d2, d3] => { results := [.lit (.bool false)], args := [d1, d2, d3] }
  | _ => none }
def RepairRightWrongFalsely : Prop := repairRightRow.holds Tryz.pinned (OpenSpec.ofChange repairRightWrong)

/-- 'ringroadlaw19.RepairDrains': WHATEVER THE INPUT: true; the input reads as it did. -/
def repairDrainsSpec : ChangeSpec := { name := "repairDrains", fn := fun _ => fun
  | [d1, d2, d3] => { results := [.lit (.bool true)], args := [d1, d2, d3] }
  | _ => none }
def repairDrainsRow : OpenClaim := { program := "ytoepbhacpidcbaagreatdoor", sum := "7d1a5aa119f91f94cb41a65e03eaecef378bfe7cba5d5c87979651acb948f39c", func := "ringroad/ringroadlaw19.RepairDrains", spec := "repairDrains", inPlace := ["slices.overlaps[int]"], unfollowed := true, recurses := true, named := ["math/bits.deBruijn64tab", "ringroad/index.none"], apart := false, laid := [("math/bits.deBruijn64tab", laid_math_bits_deBruijn64tab), ("ringroad/index.none", laid_ringroad_index_none)] }
def RepairDrainsSaid : Prop := repairDrainsRow.holds Tryz.pinned (OpenSpec.ofChange repairDrainsSpec)

/-- ITS FALSE NEIGHBOUR: 'it returns false'. Refute it at one input. -/
def repairDrainsWrong : ChangeSpec := { name := "repairDrains", fn := fun _ => fun
  | [d1, d2, d3] => { results := [.lit (.bool false)], args := [d1, d2, d3] }
  | _ => none }
def RepairDrainsWrongFalsely : Prop := repairDrainsRow.holds Tryz.pinned (OpenSpec.ofChange repairDrainsWrong)

/-- 'ringroadlaw19.RepairBudgets': WHATEVER THE INPUT: true; the input reads as it did. -/
def repairBudgetsSpec : ChangeSpec := { name := "repairBudgets", fn := fun _ => fun
  | [d1, d2, d3, d4] => { results := [.lit (.bool true)], args := [d1, d2, d3, d4] }
  | _ => none }
def repairBudgetsRow : OpenClaim := { program := "ytoepbhacpidcbaagreatdoor", sum := "7d1a5aa119f91f94cb41a65e03eaecef378bfe7cba5d5c87979651acb948f39c", func := "ringroad/ringroadlaw19.RepairBudgets", spec := "repairBudgets", inPlace := ["slices.overlaps[int]"], unfollowed := true, recurses := true, named := ["math/bits.deBruijn64tab", "ringroad/index.none"], apart := false, laid := [("math/bits.deBruijn64tab", laid_math_bits_deBruijn64tab), ("ringroad/index.none", laid_ringroad_index_none)] }
def RepairBudgetsSaid : Prop := repairBudgetsRow.holds Tryz.pinned (OpenSpec.ofChange repairBudgetsSpec)

/-- ITS FALSE NEIGHBOUR: 'it returns false'. Refute it at one input. -/
def repairBudgetsWrong : ChangeSpec := { name := "repairBudgets", fn := fun _ => fun
  | [d1, d2, d3, d4] => { results := [.lit (.bool false)], args := [d1, d2, d3, d4] }
  | _ => none }
def RepairBudgetsWrongFalsely : Prop := repairBudgetsRow.holds Tryz.pinned (OpenSpec.ofChange repairBudgetsWrong)

/-- 'ringroadlaw19.RepairBack': WHATEVER THE INPUT: true; the input reads as it did. -/
def repairBackSpec : ChangeSpec := { name := "repairBack", fn := fun _ => fun
  | [d1, d2, d3, d4, d5] => { results := [.lit (.bool true)], args := [d1, d2, d3, d4, d5] }
  | _ => none }
def repairBackRow : OpenClaim := { program := "ytoepbhacpidcbaagreatdoor", sum := "7d1a5aa119f91f94cb41a65e03eaecef378bfe7cba5d5c87979651acb948f39c", func := "ringroad/ringroadlaw19.RepairBack", spec := "repairBack", inPlace := ["slices.overlaps[int]"], unfollowed := true, recurses := true, named := ["math/bits.deBruijn64tab", "ringroad/index.none"], apart := false, laid := [("math/bits.deBruijn64tab", laid_math_bits_deBruijn64tab), ("ringroad/index.none", laid_ringroad_index_none)] }
def RepairBackSaid : Prop := repairBackRow.holds Tryz.pinned (OpenSpec.ofChange repairBackSpec)

/-- ITS FALSE NEIGHBOUR: 'it returns false'. Refute it at one input. -/
def repairBackWrong : ChangeSpec := { name := "repairBack", fn := fun _ => fun
  | [d1, d2, d3, d4, d5] => { results := [.lit (.bool false)], args := [d1, d2, d3, d4, d5] }
  | _ => none }
def RepairBackWrongFalsely : Prop := repairBackRow.holds Tryz.pinned (OpenSpec.ofChange repairBackWrong)

/-- 'ringroadlaw19.RepairNew': WHATEVER THE INPUT: true; the input reads as it did. -/
def repairNewSpec : ChangeSpec := { name := "repairNew", fn := fun _ => fun
  | [d1, d2, d3] => { results := [.lit (.bool true)], args := [d1, d2, d3] }
  | _ => none }
def repairNewRow : OpenClaim := { program := "ytoepbhacpidcbaagreatdoor", sum := "7d1a5aa119f91f94cb41a65e03eaecef378bfe7cba5d5c87979651acb948f39c", func := "ringroad/ringroadlaw19.RepairNew", spec := "repairNew", inPlace := ["slices.overlaps[int]"], unfollowed := true, recurses := true, named := ["math/bits.deBruijn64tab", "ringroad/index.none"], apart := false, laid := [("math/bits.deBruijn64tab", laid_math_bits_deBruijn64tab), ("ringroad/index.none", laid_ringroad_index_none)] }
def RepairNewSaid : Prop := repairNewRow.holds Tryz.pinned (OpenSpec.ofChange repairNewSpec)

/-- ITS FALSE NEIGHBOUR: 'it returns false'. Refute it at one input. -/
def repairNewWrong : ChangeSpec := { name := "repairNew", fn := fun _ => fun
  | [d1, d2, d3] => { results := [.lit (.bool false)], args := [d1, d2, d3] }
  | _ => none }
def RepairNewWrongFalsely : Prop := repairNewRow.holds Tryz.pinned (OpenSpec.ofChange repairNewWrong)

/-- 'ringroadlaw22.BypassExact': WHATEVER THE INPUT: true; the input reads as it did. -/
def bypassExactSpec : ChangeSpec := { name := "bypassExact", fn := fun _ => fun
  | [d1, d2, d3, d4, d5] => { results := [.lit (.bool true)], args := [d1, d2, d3, d4, d5] }
  | _ => none }
def bypassExactRow : OpenClaim := { program := "ytoepbhacpidcbaagreatdoor", sum := "7d1a5aa119f91f94cb41a65e03eaecef378bfe7cba5d5c87979651acb948f39c", func := "ringroad/ringroadlaw22.BypassExact", spec := "bypassExact", inPlace := ["slices.overlaps[int]"], unfollowed := true, recurses := true, named := ["ringroad/index.none"], apart := false, laid := [("ringroad/index.none", laid_ringroad_index_none)] }
def BypassExactSaid : Prop := bypassExactRow.holds Tryz.pinned (OpenSpec.ofChange bypassExactSpec)

/-- ITS FALSE NEIGHBOUR: 'it returns false'. Refute it at one input. -/
def bypassExactWrong : ChangeSpec := { name := "bypassExact", fn := fun _ => fun
  | [d1, d2, d3, d4, d5] => { results := [.lit (.bool false)], args := [d1, d2, d3, d4, d5] }
  | _ => none }
def BypassExactWrongFalsely : Prop := bypassExactRow.holds Tryz.pinned (OpenSpec.ofChange bypassExactWrong)

/-- 'ringroadlaw22.BypassPaths': WHATEVER THE INPUT: true; the input reads as it did. -/
def bypassPathsSpec : ChangeSpec := { name := "bypassPaths", fn := fun _ => fun
  | [d1, d2, d3, d4, d5, d6, d7] => { results := [.lit (.bool true)], args := [d1, d2, d3, d4, d5, d6, d7] }
  | _ => none }
def bypassPathsRow : OpenClaim := { program := "ytoepbhacpidcbaagreatdoor", sum := "7d1a5aa119f91f94cb41a65e03eaecef378bfe7cba5d5c87979651acb948f39c", func := "ringroad/ringroadlaw22.BypassPaths", spec := "bypassPaths", inPlace := ["slices.overlaps[int]"], unfollowed := true, recurses := true, named := ["ringroad/index.none"], apart := false, laid := [("ringroad/index.none", laid_ringroad_index_none)] }
def BypassPathsSaid : Prop := bypassPathsRow.holds Tryz.pinned (OpenSpec.ofChange bypassPathsSpec)

/-- ITS FALSE NEIGHBOUR: 'it returns false'. Refute it at one input. -/
def bypassPathsWrong : ChangeSpec := { name := "bypassPaths", fn := fun _ => fun
  | [d1, d2, d3, d4, d5, d6, d7] => { results := [.lit (.bool false)], args := [d1, d2, d3, d4, d5, d6, d7] }
  | _ => none }
def BypassPathsWrongFalsely : Prop := bypassPathsRow.holds Tryz.pinned (OpenSpec.ofChange bypassPathsWrong)

/-- 'ringroadlaw22.BypassFloors': WHATEVER THE INPUT: true; the input reads as it did. -/
def bypassFloorsSpec : ChangeSpec := { name := "bypassFloors", fn := fun _ => fun
  | [d1, d2, d3, d4, d5, d6, d7] => { results := [.lit (.bool true)], args := [d1, d2, d3, d4, d5, d6, d7] }
  | _ => none }
def bypassFloorsRow : OpenClaim := { program := "ytoepbhacpidcbaagreatdoor", sum := "7d1a5aa119f91f94cb41a65e03eaecef378bfe7cba5d5c87979651acb948f39c", func := "ringroad/ringroadlaw22.BypassFloors", spec := "bypassFloors", inPlace := ["slices.overlaps[int]"], unfollowed := true, recurses := true, named := ["ringroad/index.none"], apart := false, laid := [("ringroad/index.none", laid_ringroad_index_none)] }
def BypassFloorsSaid : Prop := bypassFloorsRow.holds Tryz.pinned (OpenSpec.ofChange bypassFloorsSpec)

/-- ITS FALSE NEIGHBOUR: 'it returns false'. Refute it at one input. -/
def bypassFloorsWrong : ChangeSpec := { name := "bypassFloors", fn := fun _ => fun
  | [d1, d2, d3, d4, d5, d6, d7] => { results := [.lit (.bool false)], args := [d1, d2, d3, d4, d5, d6, d7] }
  | _ => none }
def BypassFloorsWrongFalsely : Prop := bypassFloorsRow.holds Tryz.pinned (OpenSpec.ofChange bypassFloorsWrong)

/- THE SECOND FORM. 'bulk': how many values and letters a reading holds, each counted each time it is reached (what is shared counts as often as it is met; a slice's spare places count too). A statement '..UptoSaid' is the law's where the arguments, and the package variables that the reading takes, are together of bulk at most 1048576: NARROWER than '..Said'. Prove '..Said' where nothing that the law and all that it calls make is longer than what came in: it says more and counts as full. Else prove '..UptoSaid'. A law counts once. -/
mutual
def uptoBulk {H : Type} : DataW H → Nat
  | .lit (.string bytes) => bytes.length + 1
  | .lit _ => 1
  | .nil => 1
  | .ptr d => uptoBulk d + 1
  | .slice elems spare => uptoBulkAll elems + uptoBulkAll spare + 1
  | .agg parts => uptoBulkAll parts + 1
  | .iface _ d => uptoBulk d + 1
  | .map entries => uptoBulkEntries entries + 1
  | .held _ => 1
def uptoBulkAll {H : Type} : List (DataW H) → Nat
  | [] => 0
  | d :: r => uptoBulk d + uptoBulkAll r
def uptoBulkEntries {H : Type} : List (Lit × DataW H) → Nat
  | [] => 0
  | x :: r => uptoBulkEntry x + uptoBulkEntries r
def uptoBulkEntry {H : Type} : Lit × DataW H → Nat
  | (.string bytes, d) => bytes.length + uptoBulk d + 1
  | (_, d) => uptoBulk d + 1
 end
def uptoSmall : (H : Type) → List (DataW H) → Bool := fun _ ds => decide (uptoBulkAll ds ≤ 1048576)
def OpenSpec.upto (s : _root_.Go.ChangeSpec) : _root_.Go.OpenSpec := { _root_.Go.OpenSpec.ofChange s with cond := some uptoSmall }

/-- 'ringroadlaw22.BypassTells', WHERE WHAT IT READS IS OF BULK AT MOST 1048576: true; the input reads as it did. -/
def bypassTellsUptoRow : OpenClaim := { program := "ytoepbhacpidcbaagreatdoor", sum := "7d1a5aa119f91f94cb41a65e03eaecef378bfe7cba5d5c87979651acb948f39c", func := "ringroad/ringroadlaw22.BypassTells", spec := "bypassTells", inPlace := ["slices.overlaps[int]"], unfollowed := true, recurses := true, named := ["ringroad/index.none"], apart := false, laid := [("ringroad/index.none", laid_ringroad_index_none)], narrowed := true }
def BypassTellsUptoSaid : Prop := bypassTellsUptoRow.holds Tryz.pinned (OpenSpec.upto bypassTellsSpec)

/-- 'ringroadlaw22.BypassGround', WHERE WHAT IT READS IS OF BULK AT MOST 1048576: true; the input reads as it did. -/
def bypassGroundUptoRow : OpenClaim := { program := "ytoepbhacpidcbaagreatdoor", sum := "7d1a5aa119f91f94cb41a65e03eaecef378bfe7cba5d5c87979651acb948f39c", func := "ringroad/ringroadlaw22.BypassGround", spec := "bypassGround", inPlace := ["slices.overlaps[int]"], unfollowed := true, recurses := true, named := ["ringroad/index.none"], apart := false, laid := [("ringroad/index.none", laid_ringroad_index_none)], narrowed := true }
def BypassGroundUptoSaid : Prop := bypassGroundUptoRow.holds Tryz.pinned (OpenSpec.upto bypassGroundSpec)

/-- 'ringroadlaw19.RepairPlays', WHERE WHAT IT READS IS OF BULK AT MOST 1048576: true; the input reads as it did. -/
def repairPlaysUptoRow : OpenClaim := { program := "ytoepbhacpidcbaagreatdoor", sum := "7d1a5aa119f91f94cb41a65e03eaecef378bfe7cba5d5c87979651acb948f39c", func := "ringroad/ringroadlaw19.RepairPlays", spec := "repairPlays", inPlace := ["slices.overlaps[int]"], unfollowed := true, recurses := true, named := ["math/bits.deBruijn64tab", "ringroad/index.none"], apart := false, laid := [("math/bits.deBruijn64tab", laid_math_bits_deBruijn64tab), ("ringroad/index.none", laid_ringroad_index_none)], narrowed := true }
def RepairPlaysUptoSaid : Prop := repairPlaysUptoRow.holds Tryz.pinned (OpenSpec.upto repairPlaysSpec)

/-- 'ringroadlaw19.RepairRight', WHERE WHAT IT READS IS OF BULK AT MOST 1048576: true; the input reads as it did. -/
def repairRightUptoRow : OpenClaim := { program := "ytoepbhacpidcbaagreatdoor", sum := "7d1a5aa119f91f94cb41a65e03eaecef378bfe7cba5d5c87979651acb948f39c", func := "ringroad/ringroadlaw19.RepairRight", spec := "repairRight", inPlace := ["slices.overlaps[int]"], unfollowed := true, recurses := true, named := ["math/bits.deBruijn64tab", "ringroad/index.none"], apart := false, laid := [("math/bits.deBruijn64tab", laid_math_bits_deBruijn64tab), ("ringroad/index.none", laid_ringroad_index_none)], narrowed := true }
def RepairRightUptoSaid : Prop := repairRightUptoRow.holds Tryz.pinned (OpenSpec.upto repairRightSpec)

/-- 'ringroadlaw19.RepairDrains', WHERE WHAT IT READS IS OF BULK AT MOST 1048576: true; the input reads as it did. -/
def repairDrainsUptoRow : OpenClaim := { program := "ytoepbhacpidcbaagreatdoor", sum := "7d1a5aa119f91f94cb41a65e03eaecef378bfe7cba5d5c87979651acb948f39c", func := "ringroad/ringroadlaw19.RepairDrains", spec := "repairDrains", inPlace := ["slices.overlaps[int]"], unfollowed := true, recurses := true, named := ["math/bits.deBruijn64tab", "ringroad/index.none"], apart := false, laid := [("math/bits.deBruijn64tab", laid_math_bits_deBruijn64tab), ("ringroad/index.none", laid_ringroad_index_none)], narrowed := true }
def RepairDrainsUptoSaid : Prop := repairDrainsUptoRow.holds Tryz.pinned (OpenSpec.upto repairDrainsSpec)

/-- 'ringroadlaw19.RepairBudgets', WHERE WHAT IT READS IS OF BULK AT MOST 1048576: true; the input reads as it did. -/
def repairBudgetsUptoRow : OpenClaim := { program := "ytoepbhacpidcbaagreatdoor", sum := "7d1a5aa119f91f94cb41a65e03eaecef378bfe7cba5d5c87979651acb948f39c", func := "ringroad/ringroadlaw19.RepairBudgets", spec := "repairBudgets", inPlace := ["slices.overlaps[int]"], unfollowed := true, recurses := true, named := ["math/bits.deBruijn64tab", "ringroad/index.none"], apart := false, laid := [("math/bits.deBruijn64tab", laid_math_bits_deBruijn64tab), ("ringroad/index.none", laid_ringroad_index_none)], narrowed := true }
def RepairBudgetsUptoSaid : Prop := repairBudgetsUptoRow.holds Tryz.pinned (OpenSpec.upto repairBudgetsSpec)

/-- 'ringroadlaw19.RepairBack', WHERE WHAT IT READS IS OF BULK AT MOST 1048576: true; the input reads as it did. -/
def repairBackUptoRow : OpenClaim := { program := "ytoepbhacpidcbaagreatdoor", sum := "7d1a5aa119f91f94cb41a65e03eaecef378bfe7cba5d5c87979651acb948f39c", func := "ringroad/ringroadlaw19.RepairBack", spec := "repairBack", inPlace := ["slices.overlaps[int]"], unfollowed := true, recurses := true, named := ["math/bits.deBruijn64tab", "ringroad/index.none"], apart := false, laid := [("math/bits.deBruijn64tab", laid_math_bits_deBruijn64tab), ("ringroad/index.none", laid_ringroad_index_none)], narrowed := true }
def RepairBackUptoSaid : Prop := repairBackUptoRow.holds Tryz.pinned (OpenSpec.upto repairBackSpec)

/-- 'ringroadlaw19.RepairNew', WHERE WHAT IT READS IS OF BULK AT MOST 1048576: true; the input reads as it did. -/
def repairNewUptoRow : OpenClaim := { program := "ytoepbhacpidcbaagreatdoor", sum := "7d1a5aa119f91f94cb41a65e03eaecef378bfe7cba5d5c87979651acb948f39c", func := "ringroad/ringroadlaw19.RepairNew", spec := "repairNew", inPlace := ["slices.overlaps[int]"], unfollowed := true, recurses := true, named := ["math/bits.deBruijn64tab", "ringroad/index.none"], apart := false, laid := [("math/bits.deBruijn64tab", laid_math_bits_deBruijn64tab), ("ringroad/index.none", laid_ringroad_index_none)], narrowed := true }
def RepairNewUptoSaid : Prop := repairNewUptoRow.holds Tryz.pinned (OpenSpec.upto repairNewSpec)

/-- 'ringroadlaw22.BypassExact', WHERE WHAT IT READS IS OF BULK AT MOST 1048576: true; the input reads as it did. -/
def bypassExactUptoRow : OpenClaim := { program := "ytoepbhacpidcbaagreatdoor", sum := "7d1a5aa119f91f94cb41a65e03eaecef378bfe7cba5d5c87979651acb948f39c", func := "ringroad/ringroadlaw22.BypassExact", spec := "bypassExact", inPlace := ["slices.overlaps[int]"], unfollowed := true, recurses := true, named := ["ringroad/index.none"], apart := false, laid := [("ringroad/index.none", laid_ringroad_index_none)], narrowed := true }
def BypassExactUptoSaid : Prop := bypassExactUptoRow.holds Tryz.pinned (OpenSpec.upto bypassExactSpec)

/-- 'ringroadlaw22.BypassPaths', WHERE WHAT IT READS IS OF BULK AT MOST 1048576: true; the input reads as it did. -/
def bypassPathsUptoRow : OpenClaim := { program := "ytoepbhacpidcbaagreatdoor", sum := "7d1a5aa119f91f94cb41a65e03eaecef378bfe7cba5d5c87979651acb948f39c", func := "ringroad/ringroadlaw22.BypassPaths", spec := "bypassPaths", inPlace := ["slices.overlaps[int]"], unfollowed := true, recurses := true, named := ["ringroad/index.none"], apart := false, laid := [("ringroad/index.none", laid_ringroad_index_none)], narrowed := true }
def BypassPathsUptoSaid : Prop := bypassPathsUptoRow.holds Tryz.pinned (OpenSpec.upto bypassPathsSpec)

/-- 'ringroadlaw22.BypassFloors', WHERE WHAT IT READS IS OF BULK AT MOST 1048576: true; the input reads as it did. -/
def bypassFloorsUptoRow : OpenClaim := { program := "ytoepbhacpidcbaagreatdoor", sum := "7d1a5aa119f91f94cb41a65e03eaecef378bfe7cba5d5c87979651acb948f39c", func := "ringroad/ringroadlaw22.BypassFloors", spec := "bypassFloors", inPlace := ["slices.overlaps[int]"], unfollowed := true, recurses := true, named := ["ringroad/index.none"], apart := false, laid := [("ringroad/index.none", laid_ringroad_index_none)], narrowed := true }
def BypassFloorsUptoSaid : Prop := bypassFloorsUptoRow.holds Tryz.pinned (OpenSpec.upto bypassFloorsSpec)

end Rows
end Go.Proofs.YtoepbhacpidcbaaGreatDoor

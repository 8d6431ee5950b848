/-
  NARROWER THAN 'FOR EVERY INPUT', by the rows' own cells (each row's printed sentence says how): UnpackWalks: laid · UnpackHalves: laid · DepsHangs: laid · DepsEnough: laid.
  DERIVED. THE GIVEN ROWS OF THIS SEAT. 4 by the template 'for every input the law returns true; each argument reads behind the call as it read before'; 0 by the template 'total and deterministic' (their statements: YtakgjihhgpnnfaaDoorTotals.lean).
  GIVEN WITH THE SEED: the statements are not yours to turn. If you find one false, say at which input.
  Laid BY PROGRAM, IN A SANDBOX (cutbox-rows.mjs): the forced cells as the released guide's own fill.sh prints them over the translation 42354dd93450e079… (all of the seat's roots in one cut). By AI agents, Wed Nov 11 2026. No macro, syntax, notation, axiom, sorry.
-/
import Derived.Test.YtakgjihhgpnnfaaDoorChecked
import GoSem.Claim
import GoSem.ClaimJoined
import GoSem.ClaimMapViews
import Derived.JoinedTies
import Derived.KernelRfl
namespace Go.Proofs.YtakgjihhgpnnfaaDoor
/- THE CELL 'sum', in the pinned program and in every row, IS THE sha256 OF THE DUMP (.gsa) THAT YtakgjihhgpnnfaaDoorProg.lean LOADS. Nothing in Lean hashes anything: it is a label: what it is worth is what the hold of that sum in a sandbox is worth. -/
noncomputable def Tryd.pinned : Pinned := { name := "ytakgjihhgpnnfaadoor", sum := "42354dd93450e07974e42d86aafb5725d9eb5086a155b9f0f1ce63a8e4091021", checked := Tryd.checked }
namespace Rows
def none {H : Type} : Left H := { results := [], args := [] }

/- WHAT THE LISTED PACKAGE-LEVEL VARIABLES READ AS WHEN THE CALL BEGINS. Each datum BY PROGRAM (the guide's laid-datum.mjs) off the statement by which the dump's own 'gosem.cut.vars' lays the variable. In a bare row this is a premise. The card (YtakgjihhgpnnfaaDoorCards.lean) ties it to the program's text. -/
def laid_ringroad_index_none {H : Type} : DataW H := .agg [.lit (.int .i64 4611686018427387906), .lit (.int .i64 (-1)), .lit (.int .i64 (-1))]

/-- 'ringroadlaw21.UnpackWalks': WHATEVER THE INPUT: true; the input reads as it did. -/
def unpackWalksSpec : ChangeSpec := { name := "unpackWalks", fn := fun _ => fun
  | [d1, d2, d3] => { results := [.lit (.bool true)], args := [d1, d2, d3] }
  | _ => none }
def unpackWalksRow : OpenClaim := { program := "ytakgjihhgpnnfaadoor", sum := "42354dd93450e07974e42d86aafb5725d9eb5086a155b9f0f1ce63a8e4091021", func := "ringroad/ringroadlaw21.UnpackWalks", spec := "unpackWalks", inPlace := ["slices.overlaps[int]"], unfollowed := true, recurses := true, named := ["ringroad/index.none"], apart := false, laid := [("ringroad/index.none", laid_ringroad_index_none)] }
def UnpackWalksSaid : Prop := unpackWalksRow.holds Tryd.pinned (OpenSpec.ofChange unpackWalksSpec)

/-- ITS FALSE NEIGHBOUR: 'it returns false'. Refute it at one input. -/
def unpackWalksWrong : ChangeSpec := { name := "unpackWalks", fn := fun _ => fun
  | [d1, d2, d3] => { results := [.lit (.bool false)], args := [d1, d2, d3] }
  | _ => none }
def UnpackWalksWrongFalsely : Prop := unpackWalksRow.holds Tryd.pinned (OpenSpec.ofChange unpackWalksWrong)

/-- 'ringroadlaw21.UnpackHalves': WHATEVER THE INPUT: true; the input reads as it did. -/
def unpackHalvesSpec : ChangeSpec := { name := "unpackHalves", fn := fun _ => fun
  | [d1, d2, d3] => { results := [.lit (.bool true)], args := [d1, d2, d3] }
  | _ => none }
def unpackHalvesRow : OpenClaim := { program := "ytakgjihhgpnnfaadoor", sum := "42354dd93450e07974e42d86aafb5725d9eb5086a155b9f0f1ce63a8e4091021", func := "ringroad/ringroadlaw21.UnpackHalves", spec := "unpackHalves", inPlace := ["slices.overlaps[int]"], unfollowed := true, recurses := true, named := ["ringroad/index.none"], apart := false, laid := [("ringroad/index.none", laid_ringroad_index_none)] }
def UnpackHalvesSaid : Prop := unpackHalvesRow.holds Tryd.pinned (OpenSpec.ofChange unpackHalvesSpec)

/-- ITS FALSE NEIGHBOUR: 'it returns false'. Refute it at one input. -/
def unpackHalvesWrong : ChangeSpec := { name := "unpackHalves", fn := fun _ => fun
  | [d1, d2, d3] => { results := [.lit (.bool false)], args := [d1, d2, d3] }
  | _ => none }
def UnpackHalvesWrongFalsely : Prop := unpackHalvesRow.holds Tryd.pinned (OpenSpec.ofChange unpackHalvesWrong)

/-- 'ringroadlaw17.DepsHangs': WHATEVER THE INPUT: true; the input reads as it did. -/
def depsHangsSpec : ChangeSpec := { name := "depsHangs", fn := fun _ => fun
  | [d1, d2, d3] => { results := [.lit (.bool true)], args := [d1, d2, d3] }
  | _ => none }
def depsHangsRow : OpenClaim := { program := "ytakgjihhgpnnfaadoor", sum := "42354dd93450e07974e42d86aafb5725d9eb5086a155b9f0f1ce63a8e4091021", func := "ringroad/ringroadlaw17.DepsHangs", spec := "depsHangs", inPlace := ["slices.overlaps[int]"], unfollowed := true, recurses := true, named := ["ringroad/index.none"], apart := false, laid := [("ringroad/index.none", laid_ringroad_index_none)] }
def DepsHangsSaid : Prop := depsHangsRow.holds Tryd.pinned (OpenSpec.ofChange depsHangsSpec)

/-- ITS FALSE NEIGHBOUR: 'it returns false'. Refute it at one input. -/
def depsHangsWrong : ChangeSpec := { name := "depsHangs", fn := fun _ => fun
  | [d1, d2, d3] => { results := [.lit (.bool false)], args := [d1, d2, d3] }
  | _ => none }
def DepsHangsWrongFalsely : Prop := depsHangsRow.holds Tryd.pinned (OpenSpec.ofChange depsHangsWrong)

/-- 'ringroadlaw17.DepsEnough': WHATEVER THE INPUT: true; the input reads as it did. -/
def depsEnoughSpec : ChangeSpec := { name := "depsEnough", fn := fun _ => fun
  | [d1, d2, d3, d4, d5] => { results := [.lit (.bool true)], args := [d1, d2, d3, d4, d5] }
  | _ => none }
def depsEnoughRow : OpenClaim := { program := "ytakgjihhgpnnfaadoor", sum := "42354dd93450e07974e42d86aafb5725d9eb5086a155b9f0f1ce63a8e4091021", func := "ringroad/ringroadlaw17.DepsEnough", spec := "depsEnough", inPlace := ["slices.overlaps[int]"], unfollowed := true, recurses := true, named := ["ringroad/index.none"], apart := false, laid := [("ringroad/index.none", laid_ringroad_index_none)] }
def DepsEnoughSaid : Prop := depsEnoughRow.holds Tryd.pinned (OpenSpec.ofChange depsEnoughSpec)

/-- ITS FALSE NEIGHBOUR: 'it returns false'. Refute it at one input. -/
def depsEnoughWrong : ChangeSpec := { name := "depsEnough", fn := fun _ => fun
  | [d1, d2, d3, d4, d5] => { results := [.lit (.bool false)], args := [d1, d2, d3, d4, d5] }
  | _ => none }
def DepsEnoughWrongFalsely : Prop := depsEnoughRow.holds Tryd.pinned (OpenSpec.ofChange depsEnoughWrong)

/- THE SECOND FORM. 'bulk': how many values and letters a reading holds, each counted each time it is reached (what is shared counts as often as it is met; a slice's spare places count too). A statement '..UptoSaid' is the law's where the arguments, and the package variables that the reading takes, are together of bulk at most 1048576: NARROWER than '..Said'. Prove '..Said' where nothing that the law and all that it calls make is longer than what came in: it says more and counts as full. Else prove '..UptoSaid'. A law counts once. -/
mutual
def uptoBulk {H : Type} : DataW H → Nat
  | .lit (.string bytes) => bytes.length + 1
  | .lit _ => 1
  | .nil => 1
  | .ptr d => uptoBulk d + 1
  | .slice elems spare => uptoBulkAll elems + uptoBulkAll spare + 1
  | .agg parts => uptoBulkAll parts + 1
  | .iface _ d => uptoBulk d + 1
  | .map entries => uptoBulkEntries entries + 1
  | .held _ => 1
def uptoBulkAll {H : Type} : List (DataW H) → Nat
  | [] => 0
  | d :: r => uptoBulk d + uptoBulkAll r
def uptoBulkEntries {H : Type} : List (Lit × DataW H) → Nat
  | [] => 0
  | x :: r => uptoBulkEntry x + uptoBulkEntries r
def uptoBulkEntry {H : Type} : Lit × DataW H → Nat
  | (.string bytes, d) => bytes.length + uptoBulk d + 1
  | (_, d) => uptoBulk d + 1
 end
def uptoSmall : (H : Type) → List (DataW H) → Bool := fun _ ds => decide (uptoBulkAll ds ≤ 1048576)
def OpenSpec.upto (s : _root_.Go.ChangeSpec) : _root_.Go.OpenSpec := { _root_.Go.OpenSpec.ofChange s with cond := some uptoSmall }

/-- 'ringroadlaw21.UnpackWalks', WHERE WHAT IT READS IS OF BULK AT MOST 1048576: true; the input reads as it did. -/
def unpackWalksUptoRow : OpenClaim := { program := "ytakgjihhgpnnfaadoor", sum := "42354dd93450e07974e42d86aafb5725d9eb5086a155b9f0f1ce63a8e4091021", func := "ringroad/ringroadlaw21.UnpackWalks", spec := "unpackWalks", inPlace := ["slices.overlaps[int]"], unfollowed := true, recurses := true, named := ["ringroad/index.none"], apart := false, laid := [("ringroad/index.none", laid_ringroad_index_none)], narrowed := true }
def UnpackWalksUptoSaid : Prop := unpackWalksUptoRow.holds Tryd.pinned (OpenSpec.upto unpackWalksSpec)

/-- 'ringroadlaw21.UnpackHalves', WHERE WHAT IT READS IS OF BULK AT MOST 1048576: true; the input reads as it did. -/
def unpackHalvesUptoRow : OpenClaim := { program := "ytakgjihhgpnnfaadoor", sum := "42354dd93450e07974e42d86aafb5725d9eb5086a155b9f0f1ce63a8e4091021", func := "ringroad/ringroadlaw21.UnpackHalves", spec := "unpackHalves", inPlace := ["slices.overlaps[int]"], unfollowed := true, recurses := true, named := ["ringroad/index.none"], apart := false, laid := [("ringroad/index.none", laid_ringroad_index_none)], narrowed := true }
def UnpackHalvesUptoSaid : Prop := unpackHalvesUptoRow.holds Tryd.pinned (OpenSpec.upto unpackHalvesSpec)

/-- 'ringroadlaw17.DepsHangs', WHERE WHAT IT READS IS OF BULK AT MOST 1048576: true; the input reads as it did. -/
def depsHangsUptoRow : OpenClaim := { program := "ytakgjihhgpnnfaadoor", sum := "42354dd93450e07974e42d86aafb5725d9eb5086a155b9f0f1ce63a8e4091021", func := "ringroad/ringroadlaw17.DepsHangs", spec := "depsHangs", inPlace := ["slices.overlaps[int]"], unfollowed := true, recurses := true, named := ["ringroad/index.none"], apart := false, laid := [("ringroad/index.none", laid_ringroad_index_none)], narrowed := true }
def DepsHangsUptoSaid : Prop := depsHangsUptoRow.holds Tryd.pinned (OpenSpec.upto depsHangsSpec)

/-- 'ringroadlaw17.DepsEnough', WHERE WHAT IT READS IS OF BULK AT MOST 1048576: true; the input reads as it did. -/
def depsEnoughUptoRow : OpenClaim := { program := "ytakgjihhgpnnfaadoor", sum := "42354dd93450e07974e42d86aafb5725d9eb5086a155b9f0f1ce63a8e4091021", func := "ringroad/ringroadlaw17.DepsEnough", spec := "depsEnough", inPlace := ["slices.overlaps[int]"], unfollowed := true, recurses := true, named := ["ringroad/index.none"], apart := false, laid := [("ringroad/index.none", laid_ringroad_index_none)], narrowed := true }
def DepsEnoughUptoSaid : Prop := depsEnoughUptoRow.holds Tryd.pinned (OpenSpec.upto depsEnoughSpec)

end Rows
end Go.Proofs.YtakgjihhgpnnfaaDoor

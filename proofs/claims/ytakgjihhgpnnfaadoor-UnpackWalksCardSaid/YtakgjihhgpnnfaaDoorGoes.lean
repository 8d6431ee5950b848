/- The law's 'goes': the entries of a vertex's row, gone through, are the document's, as far as they are asked for; walked (up). -/
import Derived.Test.YtakgjihhgpnnfaaDoorRow2
import Derived.Test.YtakgjihhgpnnfaaDoorEnds
import Derived.Test.YtakgjihhgpnnfaaDoorLks
set_option linter.unusedVariables false
set_option linter.unusedSimpArgs false
namespace Go.Proofs.YtakgjihhgpnnfaaDoor
open Go.RowKit Go.Shelf

attribute [local go_sem] Oper.semAt_some
attribute [local go_sem high] run_eql_en run_neq_en eq3_self

end Go.Proofs.YtakgjihhgpnnfaaDoor

/- The law's 'goes': the entries of a vertex's row, gone through, are the document's, as far as they are asked for; walked (down). -/
set_option linter.unusedVariables false
set_option linter.unusedSimpArgs false
namespace Go.Proofs.YtakgjihhgpnnfaaDoor
open Go.RowKit Go.Shelf

attribute [local go_sem] Oper.semAt_some
attribute [local go_sem high] run_eql_en run_neq_en eq3_self

end Go.Proofs.YtakgjihhgpnnfaaDoor

/- The law of going through: the entries of a vertex's rows, all links and all shortcuts are the document's; walked. -/
set_option linter.unusedVariables false
set_option linter.unusedSimpArgs false
namespace Go.Proofs.YtakgjihhgpnnfaaDoor
open Go.RowKit Go.Deep

end Go.Proofs.YtakgjihhgpnnfaaDoor

/- The document's right entry; walked. -/
import Derived.Test.YtpkocidcfnlbiaaDoorGB
set_option linter.unusedVariables false
set_option linter.unusedSimpArgs false
namespace Go.Proofs.YtpkocidcfnlbiaaDoor
open Go.RowKit Go.Deep

end Go.Proofs.YtpkocidcfnlbiaaDoor

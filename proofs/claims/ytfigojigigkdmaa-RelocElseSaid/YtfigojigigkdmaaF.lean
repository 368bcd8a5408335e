/-
  Printed by a program: for each Go function a proposition that says what it comes to, and the proof that the code comes to it. No condition beyond what each theorem states.
-/
import Derived.Test.YtfigojigigkdmaaFa
import Derived.Test.YtfigojigigkdmaaFb
set_option linter.unusedVariables false
set_option maxRecDepth 100000
namespace Go.Proofs.Ytfigojigigkdmaa.F
open Go Go.RowKit Go.Proofs.Ytfigojigigkdmaa Go.Proofs.Ytfigojigigkdmaa.Sh


end Go.Proofs.Ytfigojigigkdmaa.F

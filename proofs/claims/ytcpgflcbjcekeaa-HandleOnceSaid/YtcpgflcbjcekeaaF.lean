/-
  Printed by a program: for each Go function a proposition that says what it comes to, and the proof that the code comes to it. No condition beyond what each theorem states.
-/
import Derived.Test.YtcpgflcbjcekeaaFa
import Derived.Test.YtcpgflcbjcekeaaFb
set_option linter.unusedVariables false
set_option maxRecDepth 100000
namespace Go.Proofs.Ytcpgflcbjcekeaa.F
open Go Go.RowKit Go.Proofs.Ytcpgflcbjcekeaa Go.Proofs.Ytcpgflcbjcekeaa.Sh


end Go.Proofs.Ytcpgflcbjcekeaa.F

/-
  Printed by a program: for each Go function a proposition that says what it comes to, and the proof that the code comes to it. No condition beyond what each theorem states.
-/
import Derived.Test.YtmjbnhleakakaaaDoorFa
import Derived.Test.YtmjbnhleakakaaaDoorFb
set_option linter.unusedVariables false
set_option maxRecDepth 100000
namespace Go.Proofs.YtmjbnhleakakaaaDoor.F
open Go Go.RowKit Go.Proofs.YtmjbnhleakakaaaDoor Go.Proofs.YtmjbnhleakakaaaDoor.Sh


end Go.Proofs.YtmjbnhleakakaaaDoor.F

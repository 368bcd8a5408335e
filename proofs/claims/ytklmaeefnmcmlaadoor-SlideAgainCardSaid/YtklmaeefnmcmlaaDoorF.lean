/-
  Printed by a program: for each Go function a proposition that says what it comes to, and the proof that the code comes to it. No condition beyond what each theorem states.
-/
import Derived.Test.YtklmaeefnmcmlaaDoorFa
import Derived.Test.YtklmaeefnmcmlaaDoorFb
import Derived.Test.YtklmaeefnmcmlaaDoorFc
set_option linter.unusedVariables false
set_option maxRecDepth 100000
namespace Go.Proofs.YtklmaeefnmcmlaaDoor.F
open Go Go.RowKit Go.Proofs.YtklmaeefnmcmlaaDoor Go.Proofs.YtklmaeefnmcmlaaDoor.Sh


end Go.Proofs.YtklmaeefnmcmlaaDoor.F

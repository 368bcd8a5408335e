/-
  Printed by a program: for each Go function a proposition that says what it comes to, and the proof that the code comes to it. No condition beyond what each theorem states.
-/
import Derived.Test.YtogmnhdadggnbaaDoorFa
import Derived.Test.YtogmnhdadggnbaaDoorFb
set_option linter.unusedVariables false
set_option maxRecDepth 100000
namespace Go.Proofs.YtogmnhdadggnbaaDoor.F
open Go Go.RowKit Go.Proofs.YtogmnhdadggnbaaDoor Go.Proofs.YtogmnhdadggnbaaDoor.Sh


end Go.Proofs.YtogmnhdadggnbaaDoor.F

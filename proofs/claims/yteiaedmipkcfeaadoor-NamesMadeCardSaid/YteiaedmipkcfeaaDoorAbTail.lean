/-
 The rest of a law, run on known values.
-/
-- halved
import Derived.Test.YteiaedmipkcfeaaDoorRnA
set_option linter.unusedVariables false
set_option linter.unusedSimpArgs false
namespace Go.Proofs.YteiaedmipkcfeaaDoor
open Go Go.RowKit

end Go.Proofs.YteiaedmipkcfeaaDoor

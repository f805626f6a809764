/-
  The rest of a law, run on known values.
-/
import Derived.Test.YticdboelpgalpaaDoorRnA
set_option linter.unusedVariables false
set_option linter.unusedSimpArgs false
namespace Go.Proofs.YticdboelpgalpaaDoor
open Go Go.RowKit

end Go.Proofs.YticdboelpgalpaaDoor

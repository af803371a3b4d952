/-
  The reference's Legal.
-/
import Derived.Test.YtfegkbmnclhljaaZFmSer8
import Derived.Test.YtfegkbmnclhljaaZG
namespace Go.Proofs.Ytfegkbmnclhljaa
set_option linter.unusedVariables false
open Go.RowKit

end Go.Proofs.Ytfegkbmnclhljaa

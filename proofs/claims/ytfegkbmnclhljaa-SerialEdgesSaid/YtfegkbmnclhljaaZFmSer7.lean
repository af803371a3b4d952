/-
  What each law of layer 22 starts with: the histories, drawn and checked.
-/
import Derived.Test.YtfegkbmnclhljaaZFmSer6
import Derived.Test.YtfegkbmnclhljaaZFmSerH
namespace Go.Proofs.Ytfegkbmnclhljaa
set_option linter.unusedVariables false
open Go.RowKit

end Go.Proofs.Ytfegkbmnclhljaa

/-
  The reference's dependencies: simproofref22.Included, why, Edges, SameEdges.
-/
import Derived.Test.YtfegkbmnclhljaaZFmSer6
import Derived.Test.YtfegkbmnclhljaaZG
namespace Go.Proofs.Ytfegkbmnclhljaa
set_option linter.unusedVariables false
open Go.RowKit

end Go.Proofs.Ytfegkbmnclhljaa

/-
  The contract of graph.Reach.
-/
import Derived.Test.YthjplkjpehdpfaaZFmCyc2
import Derived.Test.YthjplkjpehdpfaaZL
import Derived.Test.YthjplkjpehdpfaaZReachPlain
namespace Go.Proofs.Ythjplkjpehdpfaa
set_option linter.unusedVariables false
open Go.RowKit

def xZ (b : Bool) : List FV := [.bool b]
end Go.Proofs.Ythjplkjpehdpfaa

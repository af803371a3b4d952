/-
  simprooflaw03.respects, at plain values: true of a topological order.
-/
import Derived.Test.YthjplkjpehdpfaaZExtPlain
import Derived.Test.YthjplkjpehdpfaaZLawGraphReach
namespace Go.Proofs.Ythjplkjpehdpfaa
set_option linter.unusedVariables false
open Go.RowKit

end Go.Proofs.Ythjplkjpehdpfaa

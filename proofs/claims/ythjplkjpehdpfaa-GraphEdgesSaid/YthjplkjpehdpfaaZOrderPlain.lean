/-
  A relation along which a rank rises has a topological order and no cycle; real time is one.
-/
import Derived.Test.YthjplkjpehdpfaaZM
import Derived.Test.YthjplkjpehdpfaaZCycRef
import Derived.Test.YthjplkjpehdpfaaZG
namespace Go.Proofs.Ythjplkjpehdpfaa
set_option linter.unusedVariables false

end Go.Proofs.Ythjplkjpehdpfaa

/-
  The reference's search: simproofref22.extend, Exists.
-/
import Derived.Test.YtokmanfcndelfaaZFmSerL
namespace Go.Proofs.Ytokmanfcndelfaa
set_option linter.unusedVariables false
open Go.RowKit

end Go.Proofs.Ytokmanfcndelfaa

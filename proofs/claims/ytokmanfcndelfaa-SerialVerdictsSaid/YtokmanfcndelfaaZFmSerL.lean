/-
  The reference's Legal.
-/
import Derived.Test.YtokmanfcndelfaaZFmSer8
import Derived.Test.YtokmanfcndelfaaZG
namespace Go.Proofs.Ytokmanfcndelfaa
set_option linter.unusedVariables false
open Go.RowKit

end Go.Proofs.Ytokmanfcndelfaa

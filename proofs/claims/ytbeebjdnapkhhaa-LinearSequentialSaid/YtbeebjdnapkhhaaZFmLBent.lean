/-
  bent of layer 21, at plain values.
-/
import Derived.Test.YtbeebjdnapkhhaaZFmHistR
import Derived.Test.YtbeebjdnapkhhaaZI
namespace Go.Proofs.Ytbeebjdnapkhhaa
set_option linter.unusedVariables false
open Go.RowKit

end Go.Proofs.Ytbeebjdnapkhhaa

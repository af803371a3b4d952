/-
  simproofref21.History, at plain values.
-/
import Derived.Test.YtbeebjdnapkhhaaZH
import Derived.Test.YtbeebjdnapkhhaaZG
namespace Go.Proofs.Ytbeebjdnapkhhaa
set_option linter.unusedVariables false
open Go.RowKit

end Go.Proofs.Ytbeebjdnapkhhaa

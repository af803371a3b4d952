/-
  The reference of layer 21 at plain values: Value, Included, Writer, Domain.
-/
import Derived.Test.YtbeebjdnapkhhaaZLinPlain
import Derived.Test.YtbeebjdnapkhhaaZFmQt
namespace Go.Proofs.Ytbeebjdnapkhhaa
set_option linter.unusedVariables false
open Go.RowKit

end Go.Proofs.Ytbeebjdnapkhhaa

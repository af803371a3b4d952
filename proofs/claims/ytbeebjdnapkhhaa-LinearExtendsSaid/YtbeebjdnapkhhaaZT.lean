/-
  Some texts as one: FmRf2, FmRf3, FmRf4.
-/
import Derived.Test.YtbeebjdnapkhhaaZFmRf1
import Derived.Test.YtbeebjdnapkhhaaZS
import Derived.Test.YtbeebjdnapkhhaaZG
/-
 The reference of layer 21 at plain values: Thin, Early, Goes.
-/
namespace Go.Proofs.Ytbeebjdnapkhhaa
set_option linter.unusedVariables false
open Go.RowKit

end Go.Proofs.Ytbeebjdnapkhhaa
/-
 The reference of layer 21 at plain values: Goes, Zones, Key, Class.
-/
namespace Go.Proofs.Ytbeebjdnapkhhaa
set_option linter.unusedVariables false
open Go.RowKit

end Go.Proofs.Ytbeebjdnapkhhaa
/-
 The reference of layer 21 at plain values: Key, Class.
-/
namespace Go.Proofs.Ytbeebjdnapkhhaa
set_option linter.unusedVariables false
open Go.RowKit

end Go.Proofs.Ytbeebjdnapkhhaa

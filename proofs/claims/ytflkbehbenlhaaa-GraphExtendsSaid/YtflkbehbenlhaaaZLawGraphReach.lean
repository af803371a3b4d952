/-
  simprooflaw03.GraphReach answers true for every input (walked on plain values).
-/
import Derived.Test.YtflkbehbenlhaaaZLawGraphTopo
import Derived.Test.YtflkbehbenlhaaaZFmRReach
namespace Go.Proofs.Ytflkbehbenlhaaa
set_option linter.unusedVariables false
open Go.RowKit

theorem gReach_len (n : Nat) (E : List (Nat × Nat)) (fr : List Int) : (gReach n E fr).length ≤ n := outTo_len _ _
end Go.Proofs.Ytflkbehbenlhaaa

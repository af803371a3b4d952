/-
  simprooflaw03.GraphReach answers true for every input (walked on plain values).
-/
import Derived.Test.YthjplkjpehdpfaaZLawGraphTopo
import Derived.Test.YthjplkjpehdpfaaZFmRReach
namespace Go.Proofs.Ythjplkjpehdpfaa
set_option linter.unusedVariables false
open Go.RowKit

theorem zcw (n : Nat) (E : List (Nat × Nat)) (fr : List Int) : (Wf n E fr).length ≤ n := zav _ _
end Go.Proofs.Ythjplkjpehdpfaa

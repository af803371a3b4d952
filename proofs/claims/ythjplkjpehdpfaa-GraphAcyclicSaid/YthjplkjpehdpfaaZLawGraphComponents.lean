/-
  simprooflaw03.GraphComponents answers true for every input (walked on plain values).
-/
import Derived.Test.YthjplkjpehdpfaaZFmRComp
namespace Go.Proofs.Ythjplkjpehdpfaa
set_option linter.unusedVariables false
open Go.RowKit

theorem zbW (n : Nat) (E : List (Nat × Nat)) : (xJ n E).length ≤ n := ze3 n E n
end Go.Proofs.Ythjplkjpehdpfaa

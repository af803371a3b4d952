/-
  No cycle: a rank, so a topological order; the edges of a cycle.
-/
import Derived.Test.YthjplkjpehdpfaaZExtPlain
namespace Go.Proofs.Ythjplkjpehdpfaa
set_option linter.unusedVariables false

section
variable {n : Nat} {E : List (Nat × Nat)} (h : InN n E)
include h
end
end Go.Proofs.Ythjplkjpehdpfaa

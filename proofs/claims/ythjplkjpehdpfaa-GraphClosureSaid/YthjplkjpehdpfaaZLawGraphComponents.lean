/-
  simprooflaw03.GraphComponents answers true for every input (walked on plain values).
-/
import Derived.Test.YthjplkjpehdpfaaZFmRComp
namespace Go.Proofs.Ythjplkjpehdpfaa
set_option linter.unusedVariables false
open Go.RowKit

theorem zbO (n : Nat) (E : List (Nat × Nat)) : (Zk n E).length ≤ n := zeQ n E n
theorem zbP {n : Nat} {E : List (Nat × Nat)} : ∀ c ∈ Zk n E, c.length ≤ n := fun c hc => by
 obtain ⟨a, _, rfl⟩ := ZG.1 hc
 exact zeU E a n
end Go.Proofs.Ythjplkjpehdpfaa

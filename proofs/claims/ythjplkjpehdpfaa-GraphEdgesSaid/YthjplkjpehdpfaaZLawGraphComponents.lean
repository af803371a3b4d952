/-
  simprooflaw03.GraphComponents answers true for every input (walked on plain values).
-/
import Derived.Test.YthjplkjpehdpfaaZFmRComp
namespace Go.Proofs.Ythjplkjpehdpfaa
set_option linter.unusedVariables false
open Go.RowKit

theorem zcu (n : Nat) (E : List (Nat × Nat)) : (xL n E).length ≤ n := zfR n E n
theorem zcv {n : Nat} {E : List (Nat × Nat)} : ∀ c ∈ xL n E, c.length ≤ n := fun c hc => by
 obtain ⟨a, _, rfl⟩ := VB.1 hc
 exact zfW E a n
end Go.Proofs.Ythjplkjpehdpfaa

/-
  simprooflaw03.GraphTopo answers true for every input (walked on plain values).
-/
import Derived.Test.YthjplkjpehdpfaaZFmLives03
namespace Go.Proofs.Ythjplkjpehdpfaa
set_option linter.unusedVariables false
open Go.RowKit

theorem zbG (n : Int) (m : Nat) (hm : 0 < m) : ∃ k : Nat, yS n m = k ∧ k < m := ⟨(yS n m).toNat, by have := Yd (n := n) (most := m) (by omega); omega, by have := Yd (n := n) (most := m) (by omega); have := Xw (n := n) (most := m) (by omega); omega⟩
end Go.Proofs.Ythjplkjpehdpfaa

/-
  simprooflaw03.GraphTopo answers true for every input (walked on plain values).
-/
import Derived.Test.YtflkbehbenlhaaaZFmLives03
namespace Go.Proofs.Ytflkbehbenlhaaa
set_option linter.unusedVariables false
open Go.RowKit

theorem around_nat (n : Int) (m : Nat) (hm : 0 < m) : ∃ k : Nat, around n m = k ∧ k < m := ⟨(around n m).toNat, by have := around_lo (n := n) (most := m) (by omega); omega, by have := around_lo (n := n) (most := m) (by omega); have := around_hi (n := n) (most := m) (by omega); omega⟩
end Go.Proofs.Ytflkbehbenlhaaa

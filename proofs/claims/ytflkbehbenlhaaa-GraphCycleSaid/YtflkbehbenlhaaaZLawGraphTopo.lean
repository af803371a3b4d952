/-
  simprooflaw03.GraphTopo answers true for every input (walked on plain values).
-/
import Derived.Test.YtflkbehbenlhaaaZFmLives03
namespace Go.Proofs.Ytflkbehbenlhaaa
set_option linter.unusedVariables false
open Go.RowKit

theorem around_nat (n : Int) (m : Nat) (hm : 0 < m) : ∃ k : Nat, around n m = k ∧ k < m := ⟨(around n m).toNat, by have := around_lo (n := n) (most := m) (by omega); omega, by have := around_lo (n := n) (most := m) (by omega); have := around_hi (n := n) (most := m) (by omega); omega⟩
theorem rForward_in (n : Nat) (l : List Int) : InN n (rForward n l) := fwdTo_in (rEdges_in n l) _
theorem rForward_len (n : Nat) (l : List Int) : (rForward n l).length ≤ 18 := by unfold rForward; rw [fwdTo_len]; exact rEdges_len n l
end Go.Proofs.Ytflkbehbenlhaaa

/-
  simprooflaw03.GraphTopo answers true for every input (walked on plain values).
-/
import Derived.Test.YthjplkjpehdpfaaZFmLives03
namespace Go.Proofs.Ythjplkjpehdpfaa
set_option linter.unusedVariables false
open Go.RowKit

theorem zbO (n : Int) (m : Nat) (hm : 0 < m) : ∃ k : Nat, xe n m = k ∧ k < m := ⟨(xe n m).toNat, by have := Xo (n := n) (most := m) (by omega); omega, by have := Xo (n := n) (most := m) (by omega); have := Ug (n := n) (most := m) (by omega); omega⟩
theorem zaT (n : Nat) (l : List Int) : InN n (ZD n l) := zbk (zdm n l) _
theorem UP (n : Nat) (l : List Int) : (ZD n l).length ≤ 18 := by unfold ZD; rw [Yl]; exact Vb n l
end Go.Proofs.Ythjplkjpehdpfaa

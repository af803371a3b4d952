/-
  simprooflaw03.GraphTopo answers true for every input (walked on plain values).
-/
import Derived.Test.YthjplkjpehdpfaaZFmLives03
namespace Go.Proofs.Ythjplkjpehdpfaa
set_option linter.unusedVariables false
open Go.RowKit

theorem zbL (n : Int) (m : Nat) (hm : 0 < m) : ∃ k : Nat, xe n m = k ∧ k < m := ⟨(xe n m).toNat, by have := Xm (n := n) (most := m) (by omega); omega, by have := Xm (n := n) (most := m) (by omega); have := Ua (n := n) (most := m) (by omega); omega⟩
theorem zaO (n : Nat) (l : List Int) : InN n (yH n l) := zbh (UI n l) _
theorem UJ (n : Nat) (l : List Int) : (yH n l).length ≤ 18 := by unfold yH; rw [Yj]; exact YN n l
end Go.Proofs.Ythjplkjpehdpfaa

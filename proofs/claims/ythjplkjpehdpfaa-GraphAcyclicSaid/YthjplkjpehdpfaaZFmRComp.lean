/-
  The reference's components, and its comparison of lists of lists.
-/
import Derived.Test.YthjplkjpehdpfaaZFmComps
import Derived.Test.YthjplkjpehdpfaaZFmRReach
import Derived.Test.YthjplkjpehdpfaaZFmLives03
namespace Go.Proofs.Ythjplkjpehdpfaa
set_option linter.unusedVariables false
open Go.RowKit

noncomputable def cTo (n : Nat) (E : List (Nat × Nat)) (v : Nat) : List (List Nat) := ((List.range v).filter fun v => decide (hdN (xd (nxE E) n v) = v)).map (xd (nxE E) n)
theorem ze3 (n : Nat) (E : List (Nat × Nat)) (v : Nat) : (cTo n E v).length ≤ v := by unfold cTo; rw [List.length_map]; exact Nat.le_trans (List.length_filter_le _ _) (by simp)
end Go.Proofs.Ythjplkjpehdpfaa

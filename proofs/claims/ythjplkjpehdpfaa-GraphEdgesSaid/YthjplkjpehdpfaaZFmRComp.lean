/-
  The reference's components, and its comparison of lists of lists.
-/
import Derived.Test.YthjplkjpehdpfaaZFmComps
import Derived.Test.YthjplkjpehdpfaaZFmRReach
import Derived.Test.YthjplkjpehdpfaaZFmLives03
namespace Go.Proofs.Ythjplkjpehdpfaa
set_option linter.unusedVariables false
open Go.RowKit

open Classical in
noncomputable def lTo (E : List (Nat × Nat)) (v w : Nat) : List Nat := (List.range w).filter fun b => decide (Rr (nxE E) v b ∧ Rr (nxE E) b v)
theorem zfW (E : List (Nat × Nat)) (v w : Nat) : (lTo E v w).length ≤ w := by unfold lTo; exact Nat.le_trans (List.length_filter_le _ _) (by simp)
noncomputable def cTo (n : Nat) (E : List (Nat × Nat)) (v : Nat) : List (List Nat) := ((List.range v).filter fun v => decide (hdN (xI (nxE E) n v) = v)).map (xI (nxE E) n)
theorem zfR (n : Nat) (E : List (Nat × Nat)) (v : Nat) : (cTo n E v).length ≤ v := by unfold cTo; rw [List.length_map]; exact Nat.le_trans (List.length_filter_le _ _) (by simp)
end Go.Proofs.Ythjplkjpehdpfaa

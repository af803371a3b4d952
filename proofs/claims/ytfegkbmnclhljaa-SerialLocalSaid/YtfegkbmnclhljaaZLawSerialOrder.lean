/-
  simprooflaw22.SerialOrder answers true for every input (walked on plain values).
-/
import Derived.Test.YtfegkbmnclhljaaZFmSer7
import Derived.Test.YtfegkbmnclhljaaZFmSerL
namespace Go.Proofs.Ytfegkbmnclhljaa
set_option linter.unusedVariables false
open Go.RowKit

theorem resE_dom {H : List OpV} (h : resE H = 0) : dom22 H = true := by
  cases hd : dom22 H with
  | true => rfl
  | false => unfold resE at h; rw [if_neg (by rw [hd]; decide)] at h; cases h
end Go.Proofs.Ytfegkbmnclhljaa

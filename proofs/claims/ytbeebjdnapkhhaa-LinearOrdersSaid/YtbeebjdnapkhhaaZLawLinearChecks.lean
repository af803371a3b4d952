/-
  simprooflaw21.LinearChecks answers true for every input (walked on plain values).
-/
import Derived.Test.YtbeebjdnapkhhaaZFmLBent
import Derived.Test.YtbeebjdnapkhhaaZFmLv21
import Derived.Test.YtbeebjdnapkhhaaZT
namespace Go.Proofs.Ytbeebjdnapkhhaa
set_option linter.unusedVariables false
open Go.RowKit

theorem UM {l : List OpV} (h : zfy false l) : zdM l = if ya l then 0 else 22 := by
 unfold zdM
 rw [if_neg (by simp [h.wf.check])]
theorem ze9 {l : List OpV} (h : zfy false l) (D : ya l) : ziB l = (zfb l).fv := by
 unfold ziB
 rw [UM h, if_pos D, if_neg (by decide)]
end Go.Proofs.Ytbeebjdnapkhhaa

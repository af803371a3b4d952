/-
  simprooflaw21.LinearChecks answers true for every input (walked on plain values).
-/
import Derived.Test.YtbeebjdnapkhhaaZFmLBent
import Derived.Test.YtbeebjdnapkhhaaZFmLv21
import Derived.Test.YtbeebjdnapkhhaaZT
namespace Go.Proofs.Ytbeebjdnapkhhaa
set_option linter.unusedVariables false
open Go.RowKit

theorem zcJ {l : List OpV} (h : zfW false l) : zdj l = if yq l then 0 else 22 := by
 unfold zdj
 rw [if_neg (by simp [h.wf.check])]
theorem zij {l : List OpV} (h : zfW false l) (D : yq l) : zhK l = (zfk l).fv := by
 unfold zhK
 rw [zcJ h, if_pos D, if_neg (by decide)]
end Go.Proofs.Ytbeebjdnapkhhaa

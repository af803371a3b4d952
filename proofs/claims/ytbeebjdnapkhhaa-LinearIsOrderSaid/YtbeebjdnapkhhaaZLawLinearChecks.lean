/-
  simprooflaw21.LinearChecks answers true for every input (walked on plain values).
-/
import Derived.Test.YtbeebjdnapkhhaaZFmLBent
import Derived.Test.YtbeebjdnapkhhaaZFmLv21
import Derived.Test.YtbeebjdnapkhhaaZT
namespace Go.Proofs.Ytbeebjdnapkhhaa
set_option linter.unusedVariables false
open Go.RowKit

theorem zc1 {l : List OpV} (h : zfg false l) : zdC l = if yj l then 0 else 22 := by
 unfold zdC
 rw [if_neg (by simp [h.wf.check])]
theorem ziR {l : List OpV} (h : zfg false l) (D : yj l) : zjI l = (zfN l).fv := by
 unfold zjI
 rw [zc1 h, if_pos D, if_neg (by decide)]
end Go.Proofs.Ytbeebjdnapkhhaa

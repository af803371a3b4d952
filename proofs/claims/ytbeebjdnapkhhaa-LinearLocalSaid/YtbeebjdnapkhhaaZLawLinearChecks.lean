/-
  simprooflaw21.LinearChecks answers true for every input (walked on plain values).
-/
import Derived.Test.YtbeebjdnapkhhaaZFmLBent
import Derived.Test.YtbeebjdnapkhhaaZFmLv21
import Derived.Test.YtbeebjdnapkhhaaZT
namespace Go.Proofs.Ytbeebjdnapkhhaa
set_option linter.unusedVariables false
open Go.RowKit

theorem zcz {l : List OpV} (h : zeH false l) : zbT l = if zU l then 0 else 22 := by
 unfold zbT
 rw [if_neg (by simp [h.wf.check])]
theorem zif {l : List OpV} (h : zeH false l) (D : zU l) : zfO l = (zfg l).fv := by
 unfold zfO
 rw [zcz h, if_pos D, if_neg (by decide)]
end Go.Proofs.Ytbeebjdnapkhhaa

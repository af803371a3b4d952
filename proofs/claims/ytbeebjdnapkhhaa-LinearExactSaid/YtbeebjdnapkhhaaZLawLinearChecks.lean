/-
  simprooflaw21.LinearChecks answers true for every input (walked on plain values).
-/
import Derived.Test.YtbeebjdnapkhhaaZFmLBent
import Derived.Test.YtbeebjdnapkhhaaZFmLv21
import Derived.Test.YtbeebjdnapkhhaaZT
namespace Go.Proofs.Ytbeebjdnapkhhaa
set_option linter.unusedVariables false
open Go.RowKit

theorem zcN {l : List OpV} (h : zd9 false l) : zdq l = if yb l then 0 else 22 := by
 unfold zdq
 rw [if_neg (by simp [h.wf.check])]
theorem ziC {l : List OpV} (h : zd9 false l) (D : yb l) : zjq l = (zhZ l).fv := by
 unfold zjq
 rw [zcN h, if_pos D, if_neg (by decide)]
end Go.Proofs.Ytbeebjdnapkhhaa

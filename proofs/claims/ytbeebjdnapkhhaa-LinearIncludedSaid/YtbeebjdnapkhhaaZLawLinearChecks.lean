/-
  simprooflaw21.LinearChecks answers true for every input (walked on plain values).
-/
import Derived.Test.YtbeebjdnapkhhaaZFmLBent
import Derived.Test.YtbeebjdnapkhhaaZFmLv21
import Derived.Test.YtbeebjdnapkhhaaZT
namespace Go.Proofs.Ytbeebjdnapkhhaa
set_option linter.unusedVariables false
open Go.RowKit

theorem zcA {l : List OpV} (h : zfO false l) : zbT l = if zX l then 0 else 22 := by
 unfold zbT
 rw [if_neg (by simp [h.wf.check])]
theorem zig {l : List OpV} (h : zfO false l) (D : zX l) : zfR l = (zda l).fv := by
 unfold zfR
 rw [zcA h, if_pos D, if_neg (by decide)]
end Go.Proofs.Ytbeebjdnapkhhaa

/-
  simprooflaw21.LinearChecks answers true for every input (walked on plain values).
-/
import Derived.Test.YtbeebjdnapkhhaaZFmLBent
import Derived.Test.YtbeebjdnapkhhaaZFmLv21
import Derived.Test.YtbeebjdnapkhhaaZT
namespace Go.Proofs.Ytbeebjdnapkhhaa
set_option linter.unusedVariables false
open Go.RowKit

theorem zch {l : List OpV} (h : zfq false l) : zcS l = if yu l then 0 else 22 := by
 unfold zcS
 rw [if_neg (by simp [h.wf.check])]
theorem zhP {l : List OpV} (h : zfq false l) (D : yu l) : zhe l = (ziB l).fv := by
 unfold zhe
 rw [zch h, if_pos D, if_neg (by decide)]
end Go.Proofs.Ytbeebjdnapkhhaa

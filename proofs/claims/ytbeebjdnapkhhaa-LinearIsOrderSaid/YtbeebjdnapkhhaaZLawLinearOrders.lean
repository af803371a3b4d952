/-
  simprooflaw21.LinearOrders answers true for every input (walked on plain values).
-/
import Derived.Test.YtbeebjdnapkhhaaZLawLinearChecks
import Derived.Test.YtbeebjdnapkhhaaZY
import Derived.Test.YtbeebjdnapkhhaaZFmLinI
import Derived.Test.YtbeebjdnapkhhaaZGenLin
import Derived.Test.YtbeebjdnapkhhaaZFmA3
namespace Go.Proofs.Ytbeebjdnapkhhaa
set_option linter.unusedVariables false
open Go.RowKit

theorem zir (L : List Nat) : (xg L).map zF = L.map yu := by unfold xg; rw [List.map_map]; rfl
theorem ziS {h : List OpV} (H : H21 h) (hc : (zfN h).cls = 0) : ∃ L : List Nat, zfN h = ⟨0, 0, L, []⟩ ∧ zfh h (xg L) ∧ L.length ≤ h.length := by
 have V := zfO.1 hc
 refine ⟨Vl h (yS h), ?_, zk2 H V (Uz h), ?_⟩
 ·unfold zfN; rw [WI.2 V]
 ·rw [zbP H V (Uz h)]; exact zhb h
theorem zkV {h : List OpV} (hf : zfg false h) (D : yj h) : H21 h := Ua hf.wf.check D
end Go.Proofs.Ytbeebjdnapkhhaa

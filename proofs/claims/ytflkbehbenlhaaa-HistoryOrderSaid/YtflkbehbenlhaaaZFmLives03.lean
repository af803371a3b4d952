/-
  The examples of layer 3; graph.Topo and graph.Cycle as the reference has them.
-/
import Derived.Test.YtflkbehbenlhaaaZFmTopo
import Derived.Test.YtflkbehbenlhaaaZM
import Derived.Test.YtflkbehbenlhaaaZCycRef
namespace Go.Proofs.Ytflkbehbenlhaaa
set_option linter.unusedVariables false
open Go.RowKit

theorem topoR_spec (n : Nat) (E : List (Nat × Nat)) (hn : n ≤ 300) (hE : E.length ≤ 100000) (hin : InN n E) : Spec Try.prog 36 [.int .i64 n, .list 2 (E.map edf)] .sh (resT (rtK E n n [])) := by
  rw [topo_eq hin]
  have := topo_spec n E hn hE hin
  by_cases h : (topoEnd n E).length < n
  · rw [if_pos h, show decide ((topoEnd n E).length < n) = true by simpa using h] at this
    rw [if_pos h]; exact this
  · rw [if_neg h, show decide ((topoEnd n E).length < n) = false by simpa using h] at this
    rw [if_neg h]; exact this
theorem cycleR_spec (n : Nat) (E : List (Nat × Nat)) (hn : n ≤ 12) (hE : E.length ≤ 1000) (hin : InN n E) : Spec Try.prog 39 [.int .i64 n, .list 2 (E.map edf)] .sh (.list 1 ((rCycle E n).map intf)) := by
  rw [← cycle_eq hin]; exact cycle_spec n E hn hE hin
end Go.Proofs.Ytflkbehbenlhaaa

/-
  The examples of layer 3; graph.Topo and graph.Cycle as the reference has them.
-/
import Derived.Test.YtfegkbmnclhljaaZFmTopo
import Derived.Test.YtfegkbmnclhljaaZM
import Derived.Test.YtfegkbmnclhljaaZCycRef
namespace Go.Proofs.Ytfegkbmnclhljaa
set_option linter.unusedVariables false
open Go.RowKit

theorem cycleRN_spec (n : Nat) (E : List (Nat × Nat)) (hn : n ≤ 12) (hE : E.length ≤ 1000) (hin : InN n E) : Spec Try.prog 21 [.int .i64 n, .list 2 (E.map edf)] .sh (nilL ((rCycle E n).map intf)) := by
  rw [← cycle_eq hin]; exact cycleN_spec n E hn hE hin
theorem inN_of {n : Nat} {E : List (Nat × Nat)} (h : E.all (fun e => Nat.blt e.1 n && Nat.blt e.2 n) = true) : InN n E := fun e he => by
  have := List.all_eq_true.1 h e he
  simpa using this
end Go.Proofs.Ytfegkbmnclhljaa

/-
  The examples of layer 3; graph.Topo and graph.Cycle as the reference has them.
-/
import Derived.Test.YtokmanfcndelfaaZFmTopo
import Derived.Test.YtokmanfcndelfaaZM
import Derived.Test.YtokmanfcndelfaaZCycRef
namespace Go.Proofs.Ytokmanfcndelfaa
set_option linter.unusedVariables false
open Go.RowKit

theorem zbI (n : Nat) (E : List (Nat × Nat)) (hn : n ≤ 12) (hE : E.length ≤ 1000) (hin : InN n E) : yc Try.prog 16 [.int .i64 n, .list 2 (E.map edf)] .sh (zjg ((xm E n).map zp)) := by
 rw [← XE hin]; exact zc3 n E hn hE hin
theorem zjf {n : Nat} {E : List (Nat × Nat)} (h : E.all (fun e => Nat.blt e.1 n && Nat.blt e.2 n) = true) : InN n E := fun e he => by
 have := List.all_eq_true.1 h e he
 simpa using this
end Go.Proofs.Ytokmanfcndelfaa

/-
  The contract of graph.Reach.
-/
import Derived.Test.YthjplkjpehdpfaaZFmCyc2
import Derived.Test.YthjplkjpehdpfaaZL
import Derived.Test.YthjplkjpehdpfaaZReachPlain
namespace Go.Proofs.Ythjplkjpehdpfaa
set_option linter.unusedVariables false
open Go.RowKit

def zY (b : Bool) : List FV := [.bool b]
def ZU (s : List Bool) (k : Nat) : List Int := ((List.range k).filter fun v => nth s v).map fun v : Nat => (v : Int)
theorem YL (s : List Bool) (k : Nat) : ZU s (k + 1) = ZU s k ++ if nth s k = true then [(k : Int)] else [] := by
 unfold ZU
 rw [List.range_succ, List.filter_append, List.map_append]
 congr 1
 by_cases e : nth s k = true
 ·simp [e]
 ·simp [e]
theorem UF (s : List Bool) (k : Nat) : (ZU s k).length ≤ k := by
 unfold ZU
 rw [List.length_map]
 exact Nat.le_trans (List.length_filter_le _ _) (by simp)
def yD (n : Nat) (E : List (Nat × Nat)) (from_ : List Int) : List Int := ZU (xO n E from_ from_.length) n
end Go.Proofs.Ythjplkjpehdpfaa

/-
  A new variable that is filled at once.
-/
import Derived.Test.YthjplkjpehdpfaaZL
import Derived.Lib.SliceRun
namespace Go.Proofs.Ythjplkjpehdpfaa
set_option linter.unusedVariables false
open Go.RowKit

section
variable {c : Ctx} {ops : Array Oper} {rest : List Oper} {t : List (Nat × FV)} {ob : List (Nat × zg)} {d : Nat} {ty ty2 : TypeId} {pos pos2 : String} {af af2 : Array Edge} {QS : FSt → Prop}
end
end Go.Proofs.Ythjplkjpehdpfaa

/-
  simprooflaw03.GraphTopo answers true for every input (walked on plain values).
-/
import Derived.Test.YtflkbehbenlhaaaZFmLives03
namespace Go.Proofs.Ytflkbehbenlhaaa
set_option linter.unusedVariables false
open Go.RowKit

theorem around_nat (n : Int) (m : Nat) (hm : 0 < m) : ∃ k : Nat, around n m = k ∧ k < m := ⟨(around n m).toNat, by have := around_lo (n := n) (most := m) (by omega); omega, by have := around_lo (n := n) (most := m) (by omega); have := around_hi (n := n) (most := m) (by omega); omega⟩
theorem rForward_in (n : Nat) (l : List Int) : InN n (rForward n l) := fwdTo_in (rEdges_in n l) _
theorem rForward_len (n : Nat) (l : List Int) : (rForward n l).length ≤ 18 := by unfold rForward; rw [fwdTo_len]; exact rEdges_len n l
def resL : Option (List Int) → List Int
  | none => []
  | some l => l
def resB : Option (List Int) → Bool
  | none => false
  | some _ => true
theorem resT_eq (r : Option (List Int)) : resT r = .tup [.list 1 ((resL r).map intf), .bool (resB r)] := by cases r <;> rfl
theorem rtK_len (E : List (Nat × Nat)) (n : Nat) : ∀ (k : Nat) (out : List Int), (resL (rtK E n k out)).length ≤ out.length + k
  | 0, out => Nat.le_refl _
  | k + 1, out => by
    unfold rtK
    split
    · exact Nat.zero_le _
    · have := rtK_len E n k (out ++ [lstK (nextB E out) n n])
      simp at this ⊢
      omega
end Go.Proofs.Ytflkbehbenlhaaa

/-
  simprooflaw03.GraphTopo answers true for every input (walked on plain values).
-/
import Derived.Test.YthjplkjpehdpfaaZFmLives03
namespace Go.Proofs.Ythjplkjpehdpfaa
set_option linter.unusedVariables false
open Go.RowKit

theorem zcl (n : Int) (m : Nat) (hm : 0 < m) : ∃ k : Nat, xc n m = k ∧ k < m := ⟨(xc n m).toNat, by have := XQ (n := n) (most := m) (by omega); omega, by have := XQ (n := n) (most := m) (by omega); have := UQ (n := n) (most := m) (by omega); omega⟩
def zf1 : Option (List Int) → List Int
 | none => []
 | some l => l
def zgX : Option (List Int) → Bool
 | none => false
 | some _ => true
theorem zd9 (r : Option (List Int)) : zgV r = .tup [.list 1 ((zf1 r).map zt), .bool (zgX r)] := by cases r <;> rfl
theorem zei (E : List (Nat × Nat)) (n : Nat) : ∀ (k : Nat) (out : List Int), (zf1 (rtK E n k out)).length ≤ out.length + k
 | 0, out => Nat.le_refl _
 | k + 1, out => by
  unfold rtK
  split
  ·exact Nat.zero_le _
  ·have := zei E n k (out ++ [zfC (Vs E out) n n])
   simp at this ⊢
   omega
end Go.Proofs.Ythjplkjpehdpfaa

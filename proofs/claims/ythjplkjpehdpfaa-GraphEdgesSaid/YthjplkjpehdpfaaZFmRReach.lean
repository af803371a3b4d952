/-
  The reference's Reach.
-/
import Derived.Test.YthjplkjpehdpfaaZFmReach
namespace Go.Proofs.Ythjplkjpehdpfaa
set_option linter.unusedVariables false
open Go.RowKit

structure MI (n : Nat) (E : List (Nat × Nat)) (fr : List Int) (s : List Bool) : Prop where
 len : s.length = n
 snd : ∀ v, nth s v = true → Rch n E fr v
theorem MI.set {n : Nat} {E : List (Nat × Nat)} {fr : List Int} {s : List Bool} (h : MI n E fr s) {v : Nat} (hv : v < n) (hr : Rch n E fr v) : MI n E fr (s.set v true) := by
 refine ⟨by rw [List.length_set]; exact h.len, fun u hu => ?_⟩
 rw [YG (by rw [h.len]; exact hv)] at hu
 split at hu
 ·rename_i e; subst e; exact hr
 ·exact h.snd u hu
theorem WB {s s' : List Bool} {n : Nat} (h : ∀ v, v < n → (nth s v = true ↔ nth s' v = true)) : ∀ k, k ≤ n → YJ s k = YJ s' k
 | 0, _ => rfl
 | k + 1, hk => by
  rw [Xe, Xe, WB h k (by omega)]
  congr 1
  by_cases e : nth s k = true
  ·rw [if_pos e, if_pos ((h k (by omega)).1 e)]
  ·rw [if_neg e, if_neg fun q => e ((h k (by omega)).2 q)]
end Go.Proofs.Ythjplkjpehdpfaa

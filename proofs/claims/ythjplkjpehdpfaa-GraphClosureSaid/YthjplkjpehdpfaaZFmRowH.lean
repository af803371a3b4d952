/-
  Rows whose cells may hold handles, with more cells than one; literals that hold handles. (RunN alone: regions in the text's order.)
-/
import Derived.Test.YthjplkjpehdpfaaZV
namespace Go.Proofs.Ythjplkjpehdpfaa
set_option linter.unusedVariables false
open Go.RowKit

section
variable {c : Ctx} {w0 w : World} {J : JJ} {s : FSt} {a : Act} {β : Nat → Option Nat} {dst : Option Nat} {ty : TypeId} {pos : String} {after : Array Edge} {g : Option (Nat × Bool)}
theorem Xk.one {I : Nat → Prop} {v : Value} {f : FV} (hv : VR w I β s v f) (hf : Xk s f) : v.cells = #[v] ∧ v.oneCell' = true := by
 rcases hf with h1 | ⟨id, ver, o, n, rfl, hl⟩ | ⟨id, ver, j, o, rfl, hl⟩ | ⟨k, fs, rfl⟩
 ·have hn : f.hand = none := by cases f <;> first | rfl | (simp [FV.one] at h1)
  have hr := VR.rd hv hn
  cases hr <;> first | exact ⟨rfl, rfl⟩ | (simp [FV.one] at h1)
 ·obtain ⟨A, cc, e, _⟩ := (hv hl.1 hl.2).ex
  rw [e]
  exact ⟨rfl, rfl⟩
 ·obtain ⟨_, b, _, e⟩ := hv hl.1 hl.2
  rw [e]
  exact ⟨rfl, rfl⟩
 ·obtain ⟨us, e, _⟩ := hv
  rw [e]
  exact ⟨rfl, rfl⟩
end
section
variable {c : Ctx} {ops : Array Oper} {rest : List Oper} {t : List (Nat × FV)} {ob : List (Nat × zm)} {d : Nat} {ty : TypeId} {pos : String} {af : Array Edge} {gd : Option (Nat × Bool)} {QS : FSt → Prop}
end
end Go.Proofs.Ythjplkjpehdpfaa

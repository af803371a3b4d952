/-
  What each law of layer 22 starts with: the histories, drawn and checked.
-/
import Derived.Test.YtokmanfcndelfaaZFmSer6
import Derived.Test.YtokmanfcndelfaaZFmSerH
namespace Go.Proofs.Ytokmanfcndelfaa
set_option linter.unusedVariables false
open Go.RowKit

theorem zhG {most : Nat} {f : Bool} {l : List Int} (h12 : most ≤ 12) : ∀ o ∈ xF most f l, zcS o := fun o ho => by
 obtain ⟨j, hj, rfl⟩ := List.getElem_of_mem ho
 have hm := VS (f := f) (l := l) h12
 have g := zd1 (f := f) (l := l) h12 hj
 rw [nth_eq hj] at g
 obtain ⟨g1, g2, g3, g4, g5, g6, g7, g8, _⟩ := g
 unfold zcS I64
 have g4' : (0 : Int) ≤ (xF most f l)[j].arg ∧ (xF most f l)[j].arg ≤ 13 := by
  rw [g4]; split <;> omega
 refine ⟨?_, ?_, ?_, ?_, ?_, ?_, ?_⟩ <;> omega
end Go.Proofs.Ytokmanfcndelfaa

/-
  What each law of layer 22 starts with: the histories, drawn and checked.
-/
import Derived.Test.YtfegkbmnclhljaaZFmSer6
import Derived.Test.YtfegkbmnclhljaaZFmSerH
namespace Go.Proofs.Ytfegkbmnclhljaa
set_option linter.unusedVariables false
open Go.RowKit

theorem histS_in {most : Nat} {f : Bool} {l : List Int} (h12 : most ≤ 12) : ∀ o ∈ histS most f l, OpIn o := fun o ho => by
  obtain ⟨j, hj, rfl⟩ := List.getElem_of_mem ho
  have hm := histS_len (f := f) (l := l) h12
  have g := histS_op (f := f) (l := l) h12 hj
  rw [nth_eq hj] at g
  obtain ⟨g1, g2, g3, g4, g5, g6, g7, g8, _⟩ := g
  unfold OpIn I64
  have g4' : (0 : Int) ≤ (histS most f l)[j].arg ∧ (histS most f l)[j].arg ≤ 13 := by
    rw [g4]; split <;> omega
  refine ⟨?_, ?_, ?_, ?_, ?_, ?_, ?_⟩ <;> omega
end Go.Proofs.Ytfegkbmnclhljaa

/-
  Serializability: what the laws of layer 22 need, in plain Lean.
-/
import Derived.Test.YtfegkbmnclhljaaZGenSer2
import Derived.Test.YtfegkbmnclhljaaZSerCyc
import Derived.Test.YtfegkbmnclhljaaZSerLocal
namespace Go.Proofs.Ytfegkbmnclhljaa
set_option linter.unusedVariables false

section
variable {l : List OpV}
theorem filter_step {α : Type} [Inhabited α] (p : α → Bool) {L : List α} {i : Nat} (hi : i < L.length) : ((L.take (i + 1)).filter p).length = ((L.take i).filter p).length + if p (nth L i) = true then 1 else 0 := by
  rw [List.take_succ_eq_append_getElem hi, List.filter_append, List.length_append, ← nth_eq hi]
  by_cases h : p (nth L i) = true
  · simp [h]
  · simp [h]
theorem SerOrd.plain {o : List Int} (h : SerOrd l true o) : SerOrd l false o := ⟨h.rng, h.nd, h.inc, h.all, h.val, fun e => by cases e⟩
theorem cycE_ok {s : Bool} (hc : cyc22 l s ≠ []) {i : Nat} (hi : i < (cyc22 l s).length) : ∃ a b : Nat, nth (cyc22 l s) i = a ∧ nth (cyc22 l s) ((i + 1) % (cyc22 l s).length) = b ∧ a < l.length ∧ b < l.length ∧ why22 l s a b ≠ [] := by
  obtain ⟨a, b, h1, h2, h3⟩ := cyc_edges (prs_in l s) hc i hi
  obtain ⟨h4, h5, h6⟩ := prs_mem.1 h3
  exact ⟨a, b, h1, h2, h4, h5, h6⟩
end
section
variable {most : Nat} {l : List Int} (h12 : most ≤ 12)
include h12
theorem histS_cr {f : Bool} : ∀ i, i < (histS most f l).length → 0 ≤ (nth (histS most f l) i).call ∧ (nth (histS most f l) i).call < (nth (histS most f l) i).ret := fun i hi =>
  ⟨(histS_op h12 hi).c0, (histS_op h12 hi).cr⟩
end
end Go.Proofs.Ytfegkbmnclhljaa

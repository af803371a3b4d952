/-
  Serializability: what the laws of layer 22 need, in plain Lean.
-/
import Derived.Test.YtfegkbmnclhljaaZGenSer2
import Derived.Test.YtfegkbmnclhljaaZSerCyc
import Derived.Test.YtfegkbmnclhljaaZSerLocal
namespace Go.Proofs.Ytfegkbmnclhljaa
set_option linter.unusedVariables false

def notRt (e : EdV) : Bool := decide (e.2.2 ≠ 5)
section
variable {l : List OpV}
theorem why_plain (i k : Nat) : (why22 l true i k).filter (fun w => decide (w ≠ 5)) = why22 l false i k := by
  unfold why22
  split
  · unfold whys
    have f : ∀ (b : Bool) (w : Int), w ≠ 5 → (optB b w).filter (fun w => decide (w ≠ 5)) = optB b w := fun b w hw => by
      unfold optB
      split
      · simp [hw]
      · rfl
    have f5 : ∀ b : Bool, (optB b 5).filter (fun w => decide (w ≠ 5)) = [] := fun b => by
      unfold optB
      split <;> simp
    simp only [List.filter_append]
    rw [f _ 2 (by decide), f _ 3 (by decide), f _ 4 (by decide), f5]
    simp [optB]
  · rfl
theorem edges_plain : (edges22 l true).filter notRt = edges22 l false := by
  unfold edges22 edTo edRows
  rw [List.filter_flatMap]
  congr 1
  funext i
  rw [List.filter_flatMap]
  congr 1
  funext k
  unfold edRow
  rw [List.filter_map, ← why_plain]
  rfl
theorem edge_rt {s : Bool} {e : EdV} (he : e ∈ edges22 l s) (h5 : e.2.2 = 5) : e.1 < l.length ∧ e.2.1 < l.length ∧ bef l e.1 e.2.1 = true := by
  obtain ⟨h1, h2, h3⟩ := edges22_mem.1 he
  refine ⟨h1, h2, ?_⟩
  rw [h5] at h3
  unfold why22 at h3
  split at h3
  · unfold whys at h3
    simp only [List.mem_append, optB_mem] at h3
    rcases h3 with h | h | h | h
    · exact absurd h.2 (by decide)
    · exact absurd h.2 (by decide)
    · exact absurd h.2 (by decide)
    · have := h.1
      simp only [Bool.and_eq_true] at this
      exact this.2
  · cases h3
theorem filter_at {α : Type} [Inhabited α] (p : α → Bool) {L : List α} {i : Nat} (hi : i < L.length) (hp : p (nth L i) = true) : ((L.take i).filter p).length < (L.filter p).length ∧ nth (L.filter p) ((L.take i).filter p).length = nth L i := by
  have e : L = L.take i ++ (nth L i :: L.drop (i + 1)) := by
    rw [nth_eq hi, List.getElem_cons_drop hi, List.take_append_drop]
  have e2 : L.filter p = (L.take i).filter p ++ (nth L i :: (L.drop (i + 1)).filter p) := by
    conv => lhs; rw [e]
    rw [List.filter_append, List.filter_cons_of_pos hp]
  rw [e2]
  refine ⟨by simp, ?_⟩
  rw [nth_app_right (Nat.le_refl _), Nat.sub_self]
  rfl
theorem filter_step {α : Type} [Inhabited α] (p : α → Bool) {L : List α} {i : Nat} (hi : i < L.length) : ((L.take (i + 1)).filter p).length = ((L.take i).filter p).length + if p (nth L i) = true then 1 else 0 := by
  rw [List.take_succ_eq_append_getElem hi, List.filter_append, List.length_append, ← nth_eq hi]
  by_cases h : p (nth L i) = true
  · simp [h]
  · simp [h]
theorem SerOrd.plain {o : List Int} (h : SerOrd l true o) : SerOrd l false o := ⟨h.rng, h.nd, h.inc, h.all, h.val, fun e => by cases e⟩
theorem holds_mono (hD : Dom22 l) (hwf : ∀ i, i < l.length → (nth l i).call < (nth l i).ret) (h : (serV l true).cls = 0) : (serV l false).cls = 0 := by
  obtain ⟨o, ho⟩ := (serV_iff hD hwf).1 h
  exact (serV_iff hD hwf).2 ⟨o, ho.plain⟩
theorem cycE_ok {s : Bool} (hc : cyc22 l s ≠ []) {i : Nat} (hi : i < (cyc22 l s).length) : ∃ a b : Nat, nth (cyc22 l s) i = a ∧ nth (cyc22 l s) ((i + 1) % (cyc22 l s).length) = b ∧ a < l.length ∧ b < l.length ∧ why22 l s a b ≠ [] := by
  obtain ⟨a, b, h1, h2, h3⟩ := cyc_edges (prs_in l s) hc i hi
  obtain ⟨h4, h5, h6⟩ := prs_mem.1 h3
  exact ⟨a, b, h1, h2, h4, h5, h6⟩
end
section
variable {most : Nat} {l : List Int} (h12 : most ≤ 12)
include h12
theorem histS_cr {f : Bool} : ∀ i, i < (histS most f l).length → 0 ≤ (nth (histS most f l) i).call ∧ (nth (histS most f l) i).call < (nth (histS most f l) i).ret := fun i hi =>
  ⟨(histS_op h12 hi).c0, (histS_op h12 hi).cr⟩
end
end Go.Proofs.Ytfegkbmnclhljaa

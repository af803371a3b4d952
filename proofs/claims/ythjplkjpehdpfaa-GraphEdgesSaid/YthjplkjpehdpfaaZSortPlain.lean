/-
  Ascending lists: equal when they have the same members; sorting and compacting.
-/
import Derived.Test.YthjplkjpehdpfaaZD
namespace Go.Proofs.Ythjplkjpehdpfaa
set_option linter.unusedVariables false
open Go.RowKit

theorem za2 {zs : List Int} (h : zs.Pairwise (· ≤ ·)) : (Lib.compact zs).Pairwise (· < ·) := by
 unfold Lib.compact Lib.compactUpTo
 have hs : (List.range zs.length).Pairwise (· < ·) := List.pairwise_lt_range
 rw [List.pairwise_map]
 refine ((hs.filter (Lib.keeps zs.toArray)).imp_of_mem ?_)
 intro i j hi hj hij
 have hj' := List.mem_filter.1 hj
 have hjl : j < zs.length := List.mem_range.1 hj'.1
 have hk := hj'.2
 have hil : i < zs.length := by omega
 have e1 : zs.toArray[i]! = zs[i] := by simp [hil]
 have e2 : zs.toArray[j]! = zs[j] := by simp [hjl]
 have e3 : zs.toArray[j - 1]! = zs[j - 1] := by simp [show j - 1 < zs.length by omega]
 have hk2 : zs[j] ≠ zs[j - 1] := by
  unfold Lib.keeps at hk
  rw [e2, e3] at hk
  have : j ≠ 0 := by omega
  simpa [this] using hk
 rw [e1, e2]
 have h1 : zs[i] ≤ zs[j - 1] := by
  rcases Nat.lt_or_ge i (j - 1) with hl | hl
  ·exact List.pairwise_iff_getElem.1 h i (j - 1) hil (by omega) hl
  ·have : i = j - 1 := by omega
   subst this; exact Int.le_refl _
 have h2 : zs[j - 1] ≤ zs[j] := List.pairwise_iff_getElem.1 h (j - 1) j (by omega) hjl (by omega)
 omega
theorem za3 {zs : List Int} {y : Int} : y ∈ Lib.compact zs ↔ y ∈ zs := by
 unfold Lib.compact Lib.compactUpTo
 constructor
 ·intro h
  obtain ⟨j, hj, rfl⟩ := List.mem_map.1 h
  have hjl : j < zs.length := List.mem_range.1 (List.mem_filter.1 hj).1
  have e2 : zs.toArray[j]! = zs[j] := by simp [hjl]
  rw [e2]
  exact List.getElem_mem hjl
 ·intro h
  have key : ∀ n j, j ≤ n → (hj : j < zs.length) → zs[j] = y → ∃ k, k ∈ (List.range zs.length).filter (Lib.keeps zs.toArray) ∧ zs.toArray[k]! = y := by
   intro n
   induction n with
   | zero =>
    intro j hjn hj e
    have : j = 0 := by omega
    subst this
    exact ⟨0, List.mem_filter.2 ⟨List.mem_range.2 hj, by simp [Lib.keeps]⟩, by simp [hj, e]⟩
   | succ n ih =>
    intro j hjn hj e
    have e2 : zs.toArray[j]! = zs[j] := by simp [hj]
    by_cases hk : Lib.keeps zs.toArray j = true
    ·exact ⟨j, List.mem_filter.2 ⟨List.mem_range.2 hj, hk⟩, by rw [e2, e]⟩
    ·have hj0 : j ≠ 0 := by rintro rfl; exact hk (by simp [Lib.keeps])
     have e3 : zs.toArray[j - 1]! = zs[j - 1] := by simp [show j - 1 < zs.length by omega]
     have : zs[j] = zs[j - 1] := by
      unfold Lib.keeps at hk
      rw [e2, e3] at hk
      simpa [hj0] using hk
     exact ih (j - 1) (by omega) (by omega) (by rw [← this]; exact e)
  obtain ⟨j, hj, e⟩ := List.getElem_of_mem h
  obtain ⟨k, h1, h2⟩ := key j j (Nat.le_refl _) hj e
  exact List.mem_map.2 ⟨k, h1, h2⟩
theorem zaM (zs : List Int) : (zs.mergeSort fun x y => decide (x ≤ y)).Pairwise (· ≤ ·) := by
 have := List.pairwise_mergeSort (le := fun x y : Int => decide (x ≤ y)) (by intro a b c h1 h2; simp at *; omega) (by intro a b; simp; omega) zs
 exact this.imp (by intro a b h; simpa using h)
end Go.Proofs.Ythjplkjpehdpfaa

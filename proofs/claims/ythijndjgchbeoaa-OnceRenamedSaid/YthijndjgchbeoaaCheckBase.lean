/-
  What history.Check looks at, told by indices.
-/
import Derived.Test.YthijndjgchbeoaaHCheck
namespace Go.Proofs.Ythijndjgchbeoaa
set_option linter.unusedVariables false

theorem lastOf_some {l : List OpV} : ∀ {k : Nat} {p : Int} {o : OpV}, lastOf l k p = some o → ∃ m, m < k ∧ nth l m = o ∧ o.p = p
  | 0, _, _, h => by simp [lastOf] at h
  | k + 1, p, o, h => by
    simp only [lastOf] at h
    split at h
    · rename_i hp
      injection h with h
      exact ⟨k, by omega, h, by rw [← h, hp]⟩
    · obtain ⟨m, h1, h2⟩ := lastOf_some h
      exact ⟨m, by omega, h2⟩
theorem any_take {l : List OpV} {k : Nat} {f : OpV → Bool} (h : (l.take k).any f = true) : ∃ m, m < k ∧ m < l.length ∧ f (nth l m) = true := by
  obtain ⟨o, ho, hf⟩ := List.any_eq_true.1 h
  obtain ⟨m, hm, rfl⟩ := List.getElem_of_mem ho
  have hm' : m < k ∧ m < l.length := by simp at hm; omega
  refine ⟨m, hm'.1, hm'.2, ?_⟩
  rw [nth_eq hm'.2]
  simpa using hf

theorem hCheckFrom_zero {l : List OpV} : ∀ (n k : Nat), (∀ j, k ≤ j → j < k + n → errK l j = 0) → hCheckFrom l k n = 0
  | 0, _, _ => rfl
  | n + 1, k, h => by
    rw [hCheckFrom_ok (h k (Nat.le_refl _) (by omega))]
    exact hCheckFrom_zero n (k + 1) fun j h1 h2 => h j (by omega) (by omega)

theorem range_any {k : Nat} {f : Nat → Bool} : (List.range k).any f = true ↔ ∃ j, j < k ∧ f j = true := by
  rw [List.any_eq_true]
  constructor
  · rintro ⟨j, hj, h⟩; exact ⟨j, by simpa using hj, h⟩
  · rintro ⟨j, hj, h⟩; exact ⟨j, by simpa using hj, h⟩
theorem take_any {l : List OpV} {k : Nat} {f : OpV → Bool} (hk : k ≤ l.length) : (l.take k).any f = true ↔ ∃ j, j < k ∧ f (nth l j) = true := by
  constructor
  · intro h; obtain ⟨m, h1, _, h3⟩ := any_take h; exact ⟨m, h1, h3⟩
  · rintro ⟨j, hj, h⟩
    refine List.any_eq_true.2 ⟨nth l j, ?_, h⟩
    rw [nth_eq (by omega)]
    exact List.mem_take_iff_getElem.2 ⟨j, by omega, rfl⟩
theorem all_any {l : List OpV} {f : OpV → Bool} : l.any f = true ↔ ∃ j, j < l.length ∧ f (nth l j) = true := by
  have := take_any (l := l) (k := l.length) (f := f) (Nat.le_refl _)
  rwa [List.take_length] at this

end Go.Proofs.Ythijndjgchbeoaa

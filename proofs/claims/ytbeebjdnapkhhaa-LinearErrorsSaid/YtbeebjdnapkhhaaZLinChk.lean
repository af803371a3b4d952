/-
  linear.Check's verdict, in plain Lean.
-/
import Derived.Test.YtbeebjdnapkhhaaZLinGlob
import Derived.Test.YtbeebjdnapkhhaaZG
namespace Go.Proofs.Ytbeebjdnapkhhaa
set_option linter.unusedVariables false

theorem check_errs {l : List OpV} (h : hCheck l = 0) : l.length ≤ 300 ∧ ∀ j, j < l.length → errK l j = 0 := by
 unfold hCheck at h
 split at h
 ·cases h
 ·refine ⟨by omega, fun j hj => ?_⟩
  have key : ∀ (n k : Nat), hCheckFrom l k n = 0 → ∀ j, k ≤ j → j < k + n → errK l j = 0 := by
   intro n
   induction n with
   | zero => intro k _ j h1 h2; omega
   | succ n ih =>
    intro k hk j h1 h2
    unfold hCheckFrom at hk
    split at hk
    ·rename_i he
     rcases Nat.eq_or_lt_of_le h1 with e | e
     ·rw [← e]; exact he
     ·exact ih (k + 1) hk j e (by omega)
    ·rename_i he; exact absurd hk he
  exact key l.length 0 h j (Nat.zero_le _) (by omega)
theorem check_at {l : List OpV} (h : hCheck l = 0) {j : Nat} (hj : j < l.length) : wfB (nth l j) = true ∧ (0 < j → (nth l (j - 1)).call < (nth l j).call) := by
 have := (check_errs h).2 j hj
 unfold errK at this
 by_cases hw : wfB (nth l j) = false
 ·rw [if_pos hw] at this; cases this
 ·rw [if_neg hw] at this
  refine ⟨by simpa using hw, fun h0 => ?_⟩
  by_cases hc : 0 < j ∧ (nth l j).call ≤ (nth l (j - 1)).call
  ·rw [if_pos hc] at this; cases this
  ·omega
theorem check_inc {l : List OpV} (h : hCheck l = 0) {i : Nat} : ∀ {d : Nat}, i + d + 1 < l.length → (nth l i).call < (nth l (i + d + 1)).call
 | 0, hd => (check_at h hd).2 (by omega)
 | d + 1, hd => by
  have h1 := check_inc h (i := i) (d := d) (by omega)
  have h2 := (check_at h hd).2 (by omega)
  rw [show i + (d + 1) + 1 - 1 = i + d + 1 by omega] at h2
  omega
theorem check_h21 {l : List OpV} (h : hCheck l = 0) (D : dom21 l) : H21 l where
 dom := D
 ord i j hi hj hc := by
  refine Nat.lt_of_not_le fun hle => ?_
  rcases Nat.lt_or_eq_of_le hle with h2 | h2
  ·have := check_inc h (i := j) (d := i - j - 1) (by omega)
   rw [show j + (i - j - 1) + 1 = i by omega] at this
   omega
  ·subst h2; omega
 wf i hi := by
  have := (check_at h hi).1
  simp only [wfB, Bool.and_eq_true, decide_eq_true_eq] at this
  omega
theorem vio_ok {l : List OpV} {c : Int} : (vioV l c).cls = 0 ↔ VO l c := by
 unfold vioV
 cases h1 : (List.range l.length).find? (thinC l c) with
 | some i =>
  rw [List.find?_range_eq_some] at h1
  refine ⟨fun h => (by cases h), fun V => ?_⟩
  have := h1.1
  unfold thinC at this
  rw [Bool.and_eq_true, decide_eq_true_eq] at this
  rw [V.thin i (List.mem_range.1 h1.2.1) this.1] at this
  cases this.2
 | none =>
  dsimp only
  cases h2 : (List.range l.length).find? (earlyC l c) with
  | some i =>
   rw [List.find?_range_eq_some] at h2
   refine ⟨fun h => (by cases h), fun V => ?_⟩
   have := h2.1
   unfold earlyC at this
   rw [Bool.and_eq_true, decide_eq_true_eq] at this
   rw [V.early i (List.mem_range.1 h2.2.1) this.1] at this
   cases this.2
  | none =>
   dsimp only
   by_cases h3 : cfAll l c = []
   ·rw [if_pos h3]
    refine ⟨fun _ => ⟨fun i hi hk => ?_, fun i hi hk => ?_, h3⟩, fun _ => rfl⟩
    ·have := List.find?_eq_none.1 h1 i (List.mem_range.2 hi)
     unfold thinC at this
     rw [decide_eq_true hk, Bool.true_and] at this
     simpa using this
    ·have := List.find?_eq_none.1 h2 i (List.mem_range.2 hi)
     unfold earlyC at this
     rw [decide_eq_true hk, Bool.true_and] at this
     simpa using this
   ·rw [if_neg h3]
    exact ⟨fun h => (by cases h), fun V => absurd V.conf h3⟩
def vKey (l : List OpV) : Option Int := (hKeys l).find? fun c => decide ((vioV l c).cls ≠ 0)
structure LinV where
 cls : Int
 arg : Int
 ord : List Nat
 ed : List (Nat × Nat)
noncomputable def linV (l : List OpV) : LinV :=
 match vKey l with
 | some c => ⟨(vioV l c).cls, c, (vioV l c).ord, (vioV l c).ed⟩
 | none => ⟨0, 0, linL l (hKeys l), []⟩
theorem vKey_none {l : List OpV} : vKey l = none ↔ ∀ c ∈ hKeys l, VO l c := by
 unfold vKey
 rw [List.find?_eq_none]
 constructor
 ·intro h c hc
  have := h c hc
  exact vio_ok.1 (by simpa using this)
 ·intro h c hc
  have := vio_ok.2 (h c hc)
  simpa using this
theorem vKey_of {l : List OpV} {i : Nat} (hi : i < (hKeys l).length) (h : ∀ j, j < i → (vioV l (nth (hKeys l) j)).cls = 0) (h2 : (vioV l (nth (hKeys l) i)).cls ≠ 0) : vKey l = some (nth (hKeys l) i) := by
 unfold vKey
 rw [List.find?_eq_some_iff_getElem]
 refine ⟨by simpa using h2, i, hi, (nth_eq hi).symm, fun j hj => ?_⟩
 have := h j hj
 rw [nth_eq (by omega)] at this
 simpa using this
theorem hKeys_all (l : List OpV) : ∀ i, i < l.length → (nth l i).key ∈ hKeys l := fun i hi => (hKeys_mem l _).2 ⟨_, nth_mem hi, rfl⟩
end Go.Proofs.Ytbeebjdnapkhhaa

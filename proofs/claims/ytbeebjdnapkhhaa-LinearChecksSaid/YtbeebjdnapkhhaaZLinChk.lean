/-
  linear.Check's verdict, in plain Lean.
-/
import Derived.Test.YtbeebjdnapkhhaaZLinGlob
import Derived.Test.YtbeebjdnapkhhaaZG
namespace Go.Proofs.Ytbeebjdnapkhhaa
set_option linter.unusedVariables false

theorem zaK {l : List OpV} (h : xE l = 0) : l.length ≤ 300 ∧ ∀ j, j < l.length → zbW l j = 0 := by
 unfold xE at h
 split at h
 ·cases h
 ·refine ⟨by omega, fun j hj => ?_⟩
  have key : ∀ (n k : Nat), ye l k n = 0 → ∀ j, k ≤ j → j < k + n → zbW l j = 0 := by
   intro n
   induction n with
   | zero => intro k _ j h1 h2; omega
   | succ n ih =>
    intro k hk j h1 h2
    unfold ye at hk
    split at hk
    ·rename_i he
     rcases Nat.eq_or_lt_of_le h1 with e | e
     ·rw [← e]; exact he
     ·exact ih (k + 1) hk j e (by omega)
    ·rename_i he; exact absurd hk he
  exact key l.length 0 h j (Nat.zero_le _) (by omega)
theorem zbm {l : List OpV} (h : xE l = 0) {j : Nat} (hj : j < l.length) : wfB (nth l j) = true ∧ (0 < j → (nth l (j - 1)).call < (nth l j).call) := by
 have := (zaK h).2 j hj
 unfold zbW at this
 by_cases hw : wfB (nth l j) = false
 ·rw [if_pos hw] at this; cases this
 ·rw [if_neg hw] at this
  refine ⟨by simpa using hw, fun h0 => ?_⟩
  by_cases hc : 0 < j ∧ (nth l j).call ≤ (nth l (j - 1)).call
  ·rw [if_pos hc] at this; cases this
  ·omega
theorem zb5 {l : List OpV} (h : xE l = 0) {i : Nat} : ∀ {d : Nat}, i + d + 1 < l.length → (nth l i).call < (nth l (i + d + 1)).call
 | 0, hd => (zbm h hd).2 (by omega)
 | d + 1, hd => by
  have h1 := zb5 h (i := i) (d := d) (by omega)
  have h2 := (zbm h hd).2 (by omega)
  rw [show i + (d + 1) + 1 - 1 = i + d + 1 by omega] at h2
  omega
theorem zb4 {l : List OpV} (h : xE l = 0) (D : yn l) : H21 l where
 dom := D
 ord i j hi hj hc := by
  refine Nat.lt_of_not_le fun hle => ?_
  rcases Nat.lt_or_eq_of_le hle with h2 | h2
  ·have := zb5 h (i := j) (d := i - j - 1) (by omega)
   rw [show j + (i - j - 1) + 1 = i by omega] at this
   omega
  ·subst h2; omega
 wf i hi := by
  have := (zbm h hi).1
  simp only [wfB, Bool.and_eq_true, decide_eq_true_eq] at this
  omega
theorem zhE {l : List OpV} {c : Int} : (Xo l c).cls = 0 ↔ VO l c := by
 unfold Xo
 cases h1 : (List.range l.length).find? (Xz l c) with
 | some i =>
  rw [List.find?_range_eq_some] at h1
  refine ⟨fun h => (by cases h), fun V => ?_⟩
  have := h1.1
  unfold Xz at this
  rw [Bool.and_eq_true, decide_eq_true_eq] at this
  rw [V.thin i (List.mem_range.1 h1.2.1) this.1] at this
  cases this.2
 | none =>
  dsimp only
  cases h2 : (List.range l.length).find? (xz l c) with
  | some i =>
   rw [List.find?_range_eq_some] at h2
   refine ⟨fun h => (by cases h), fun V => ?_⟩
   have := h2.1
   unfold xz at this
   rw [Bool.and_eq_true, decide_eq_true_eq] at this
   rw [V.early i (List.mem_range.1 h2.2.1) this.1] at this
   cases this.2
  | none =>
   dsimp only
   by_cases h3 : VW l c = []
   ·rw [if_pos h3]
    refine ⟨fun _ => ⟨fun i hi hk => ?_, fun i hi hk => ?_, h3⟩, fun _ => rfl⟩
    ·have := List.find?_eq_none.1 h1 i (List.mem_range.2 hi)
     unfold Xz at this
     rw [decide_eq_true hk, Bool.true_and] at this
     simpa using this
    ·have := List.find?_eq_none.1 h2 i (List.mem_range.2 hi)
     unfold xz at this
     rw [decide_eq_true hk, Bool.true_and] at this
     simpa using this
   ·rw [if_neg h3]
    exact ⟨fun h => (by cases h), fun V => absurd V.conf h3⟩
def zc5 (l : List OpV) : Option Int := (yU l).find? fun c => decide ((Xo l c).cls ≠ 0)
structure zka where
 cls : Int
 arg : Int
 ord : List Nat
 ed : List (Nat × Nat)
noncomputable def zjE (l : List OpV) : zka :=
 match zc5 l with
 | some c => ⟨(Xo l c).cls, c, (Xo l c).ord, (Xo l c).ed⟩
 | none => ⟨0, 0, zfj l (yU l), []⟩
theorem zc6 {l : List OpV} : zc5 l = none ↔ ∀ c ∈ yU l, VO l c := by
 unfold zc5
 rw [List.find?_eq_none]
 constructor
 ·intro h c hc
  have := h c hc
  exact zhE.1 (by simpa using this)
 ·intro h c hc
  have := zhE.2 (h c hc)
  simpa using this
theorem zjR {l : List OpV} {i : Nat} (hi : i < (yU l).length) (h : ∀ j, j < i → (Xo l (nth (yU l) j)).cls = 0) (h2 : (Xo l (nth (yU l) i)).cls ≠ 0) : zc5 l = some (nth (yU l) i) := by
 unfold zc5
 rw [List.find?_eq_some_iff_getElem]
 refine ⟨by simpa using h2, i, hi, (zn hi).symm, fun j hj => ?_⟩
 have := h j hj
 rw [zn (by omega)] at this
 simpa using this
theorem Uw (l : List OpV) : ∀ i, i < l.length → (nth l i).key ∈ yU l := fun i hi => (Zv l _).2 ⟨_, zK hi, rfl⟩
end Go.Proofs.Ytbeebjdnapkhhaa

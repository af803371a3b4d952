/-
  What is in the clusters of a key; the verdict about a key.
-/
import Derived.Test.YtbeebjdnapkhhaaZFmClus3
namespace Go.Proofs.Ytbeebjdnapkhhaa
set_option linter.unusedVariables false

section
variable {l : List OpV} {c : Int}
def clVal (l : List OpV) (c : Int) (j : Nat) : Int := (nth (tlTo l c l.length) j).2.2
theorem clOf_len : (clOf l c).length = (tlTo l c l.length).length := by unfold clOf; exact clT_len _ _
theorem clOf_case {j : Nat} (hj : j < (clOf l c).length) : (has0 l c = true ∧ clVal l c j = 0 ∧ nth (clOf l c) j = ⟨true, rdsTo l c 0 l.length⟩) ∨
  ∃ w, w < l.length ∧ wrB l c w = true ∧ clVal l c j = (nth l w).arg ∧ nth (clOf l c) j = ⟨false, w :: rdsTo l c (nth l w).arg l.length⟩ := by
 rw [clOf_len] at hj
 have h1 : nth (clOf l c) j = _ := clT_nth hj
 have hm := nth_mem hj
 unfold clVal
 rcases tlTo_mem.1 hm with ⟨h0, e⟩ | ⟨w, w1, w2, e⟩
 ·left
  refine ⟨h0, by rw [e], ?_⟩
  rw [h1, e]; rfl
 ·right
  refine ⟨w, w1, w2, by rw [e], ?_⟩
  rw [h1, e]; rfl
theorem clOf_ops (D : dom21 l) {j : Nat} (hj : j < (clOf l c).length) {i : Nat} : i ∈ (nth (clOf l c) j).ops ↔ inCl l c (clVal l c j) i := by
 have rd : ∀ v, i ∈ rdsTo l c v l.length ↔ inCl l c v i ∧ (nth l i).k = 0 := fun v => by
  rw [rdsTo_mem, rdOf_iff]
  unfold inCl
  constructor
  ·rintro ⟨h1, h2, h3, h4, h5⟩
   exact ⟨⟨h1, h4, (valL_r h2).trans h5, inclR_done h3⟩, h2⟩
  ·rintro ⟨⟨h1, h2, h3, h4⟩, h5⟩
   exact ⟨h1, h5, inclR_read h5 h4, h2, (valL_r h5).symm.trans h3⟩
 rcases clOf_case hj with ⟨h0, h1, h2⟩ | ⟨w, w1, w2, h1, h2⟩
 ·rw [h1, h2]
  show i ∈ rdsTo l c 0 l.length ↔ _
  rw [rd]
  refine ⟨fun h => h.1, fun h => ⟨h, ?_⟩⟩
  rcases D.kind h.1 with hk | hk
  ·exact hk
  ·exact absurd ((valL_w hk).symm.trans h.2.2.1) (D.arg h.1 hk)
 ·rw [h1, h2]
  show i ∈ w :: rdsTo l c (nth l w).arg l.length ↔ _
  rw [List.mem_cons, rd]
  rw [wrB_iff] at w2
  constructor
  ·rintro (rfl | h)
   ·exact ⟨w1, w2.1, valL_w w2.2.1, w2.2.2⟩
   ·exact h.1
  ·intro h
   rcases D.kind h.1 with hk | hk
   ·exact .inr ⟨h, hk⟩
   ·exact .inl (D.uniq h.1 w1 hk w2.2.1 (h.2.1.trans w2.1.symm) ((valL_w hk).symm.trans h.2.2.1))
theorem clOf_ne (D : dom21 l) {j : Nat} (hj : j < (clOf l c).length) : 0 < (nth (clOf l c) j).ops.length := by
 rcases clOf_case hj with ⟨h0, h1, h2⟩ | ⟨w, w1, w2, h1, h2⟩
 ·obtain ⟨i, hi, h⟩ := any_nth.1 h0
  rw [h2]
  exact List.length_pos_of_mem (rdsTo_mem.2 ⟨hi, h⟩)
 ·rw [h2]; simp
theorem rdsTo_len (v : Int) (k : Nat) : (rdsTo l c v k).length ≤ k := by unfold rdsTo; exact Nat.le_trans (List.length_filter_le _ _) (by simp)
theorem clOf_ln {j : Nat} (hj : j < (clOf l c).length) : (nth (clOf l c) j).ops.length ≤ l.length + 1 := by
 rcases clOf_case hj with ⟨h0, h1, h2⟩ | ⟨w, w1, w2, h1, h2⟩
 ·rw [h2]; have := rdsTo_len (l := l) (c := c) 0 l.length; dsimp only; omega
 ·rw [h2]; have := rdsTo_len (l := l) (c := c) (nth l w).arg l.length; simp; omega
theorem clOf_len_le : (clOf l c).length ≤ l.length + 1 := by rw [clOf_len]; exact tlTo_len
theorem in21_incl (D : dom21 l) {i : Nat} (hi : i < l.length) : nth (in21 l) i = inclR l i := by
 unfold in21
 rw [inTo_at hi, decide_eq_true hi, Bool.true_and]
 unfold inclR
 cases hd : (nth l i).done with
 | true => rfl
 | false =>
  rw [Bool.false_or, Bool.false_or, Bool.eq_iff_iff, List.any_eq_true, Bool.and_eq_true, any_nth]
  constructor
  ·rintro ⟨j, hj, h⟩
   simp only [Bool.and_eq_true, decide_eq_true_eq] at h
   obtain ⟨h1, h2⟩ := h
   have hj' : j < l.length := List.mem_range.1 hj
   obtain ⟨w1, w2, _⟩ := wIx_some h2
   rw [wOf_iff] at w2
   refine ⟨by simpa using w2.1, j, hj', ?_⟩
   rcases D.kind hj' with hk | hk
   ·exact rdOf_iff.2 ⟨hk, h1, w2.2.1.symm, by rw [w2.2.2, valL_r hk]⟩
   ·have : j = i := D.uniq hj' hi hk w2.1 w2.2.1.symm (by rw [w2.2.2, valL_w hk])
    subst this
    rw [h1] at hd; cases hd
  ·rintro ⟨h1, j, hj, h2⟩
   have h1 : (nth l i).k = 1 := by simpa using h1
   rw [rdOf_iff] at h2
   refine ⟨j, List.mem_range.2 hj, ?_⟩
   rw [h2.2.1, Bool.true_and, decide_eq_true_eq, valL_r h2.1, h2.2.2.1, h2.2.2.2]
   exact wIx_of D hi h1
end
def cfK (l : List OpV) (C : List ClV) (i : Nat) : Nat → Nat → List (Nat × Nat)
 | 0, _ => []
 | f + 1, k => if confE l (nth C i) (nth C k) = [] then cfK l C i f (k + 1) else confE l (nth C i) (nth C k)
def cfI (l : List OpV) (C : List ClV) : Nat → Nat → List (Nat × Nat)
 | 0, _ => []
 | f + 1, i => if cfK l C i (C.length - (i + 1)) (i + 1) = [] then cfI l C f (i + 1) else cfK l C i (C.length - (i + 1)) (i + 1)
theorem cfK_nil {l : List OpV} {C : List ClV} {i : Nat} : ∀ {f k : Nat}, cfK l C i f k = [] ↔ ∀ j, k ≤ j → j < k + f → confE l (nth C i) (nth C j) = []
 | 0, k => ⟨fun _ j h1 h2 => by omega, fun _ => rfl⟩
 | f + 1, k => by
  unfold cfK
  by_cases h : confE l (nth C i) (nth C k) = []
  ·rw [if_pos h, cfK_nil]
   constructor
   ·intro h2 j h3 h4
    by_cases e : j = k
    ·rw [e]; exact h
    ·exact h2 j (by omega) (by omega)
   ·intro h2 j h3 h4; exact h2 j (by omega) (by omega)
  ·rw [if_neg h]
   exact ⟨fun h2 => absurd h2 h, fun h2 => absurd (h2 k (Nat.le_refl _) (by omega)) h⟩
theorem cfI_nil {l : List OpV} {C : List ClV} : ∀ {f i : Nat}, cfI l C f i = [] ↔ ∀ a, i ≤ a → a < i + f → ∀ j, a < j → j < C.length → confE l (nth C a) (nth C j) = []
 | 0, i => ⟨fun _ j h1 h2 => by omega, fun _ => rfl⟩
 | f + 1, i => by
  unfold cfI
  by_cases h : cfK l C i (C.length - (i + 1)) (i + 1) = []
  ·rw [if_pos h, cfI_nil]
   rw [cfK_nil] at h
   constructor
   ·intro h2 a h3 h4 j h5 h6
    by_cases e : a = i
    ·subst e; exact h j (by omega) (by omega)
    ·exact h2 a (by omega) (by omega) j h5 h6
   ·intro h2 a h3 h4; exact h2 a (by omega) (by omega)
  ·rw [if_neg h]
   refine ⟨fun h2 => absurd h2 h, fun h2 => absurd ?_ h⟩
   exact cfK_nil.2 fun j h3 h4 => h2 i (Nat.le_refl _) (by omega) j (by omega) (by omega)
structure LV where
 cls : Int
 ord : List Nat
 ed : List (Nat × Nat)
 deriving DecidableEq
def thinC (l : List OpV) (c : Int) (i : Nat) : Bool := decide ((nth l i).key = c) && thinL l i
def earlyC (l : List OpV) (c : Int) (i : Nat) : Bool := decide ((nth l i).key = c) && earlyL l i
def wrOf (l : List OpV) (i : Nat) : Nat := (wIx l (nth l i).key (nth l i).res).getD 0
def cfAll (l : List OpV) (c : Int) : List (Nat × Nat) := cfI l (clOf l c) (clOf l c).length 0
def vioV (l : List OpV) (c : Int) : LV :=
 match (List.range l.length).find? (thinC l c) with
 | some i => ⟨2, [i], []⟩
 | none => match (List.range l.length).find? (earlyC l c) with
  | some i => ⟨3, [i, wrOf l i], []⟩
  | none => if cfAll l c = [] then ⟨0, [], []⟩ else ⟨4, [], cfAll l c⟩
theorem find_some {n i : Nat} {p : Nat → Bool} (hi : i < n) (h : p i = true) (hj : ∀ j, j < i → p j = false) : (List.range n).find? p = some i := by
 rw [List.find?_range_eq_some]
 exact ⟨h, List.mem_range.2 hi, fun j hj' => by rw [hj j hj']; rfl⟩
theorem find_none {n : Nat} {p : Nat → Bool} (hj : ∀ j, j < n → p j = false) : (List.range n).find? p = none := by
 rw [List.find?_eq_none]
 exact fun j hj' => by rw [hj j (List.mem_range.1 hj')]; decide
end Go.Proofs.Ytbeebjdnapkhhaa
